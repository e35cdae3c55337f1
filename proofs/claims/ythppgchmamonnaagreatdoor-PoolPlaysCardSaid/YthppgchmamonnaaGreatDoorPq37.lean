/- The disk under a live pool is cut; what does not touch the document's side. Both pools side by side: what holds between calls, and how a pair of calls keeps it. Both pools side by side: Log, Cut, Unpin, Flush. Both pools side by side: Flush. -/
import Derived.Test.YthppgchmamonnaaGreatDoorPq34
import Derived.Test.YthppgchmamonnaaGreatDoorPq35
import Derived.Test.YthppgchmamonnaaGreatDoorPq36
namespace Go.Proofs.YthppgchmamonnaaGreatDoor
open Go.RowKit
theorem disk_cut (w : World) (b : Nat) (d : Dsk) (F : Nat → Prop) (h : DiskAt w b d F) (n : Int) (hn : n ≤ 9223372036854775807) :
    Calls Tryz.prog 58 #[.pointer (some ⟨b, 0, none⟩), .int .i64 n] w fun e w' => e = .returned (.tuple #[]) ∧ DiskAt w' b (d.slash n) F ∧ Kept (Just b) w w' := by
  have HG := Lib.hid (disk_gone w b d F h)
  obtain ⟨gv, nv, ov, hb, hF, hg, hn2, ho, ha, hw, hu⟩ := h
  have c4 := cell_at hb 4 _ rfl
  have c5 := cell_at hb 5 _ rfl
  have f4 := frozen_at hb 4
  have f5 := frozen_at hb 5
  have hfin := fun w' hk hb' => DiskAt.scalars (w' := w') (d' := d.slash n) hb hF hg hn2 ho ha hu hk hb' rfl rfl rfl (hw.slash hn)
  have HF := Lib.hid hfin
  have HB := Lib.hid hb
  clear hfin hb hg hn2 ho ha hw hu hF
  by_cases hp : n < 0
  all_goals
    go_enter Tryz.func58, Tryz.ntmps58
    go_wp2_with (go_at_call 40; refine HG.out.mono ?_; rintro e w' ⟨rfl, rfl⟩)
    refine bodyPost_end (results_none rfl _ _ _) rfl ?_
  all_goals
    refine ⟨rfl, HF.out _ ?_ ?_, ?_⟩
    · with_reducible exact kept2 w b _ _ _ _
    · (with_reducible refine (heap2 w b _ _ _ _ _ _ HB.out).trans ?_); simp [Dsk.slash] <;> omega
    · with_reducible exact kept2 w b _ _ _ _
theorem Dsk.slash_good (d : Dsk) (n : Int) : (d.slash n).good = d.good := rfl
theorem Live.cut {w0 w : World} {bd b mb : Nat} {d : Dsk} {P : Pl} {K Z : Nat → Prop} {con : Nat → PgM} (h : Live w0 w bd b mb d P K con Z) (n : Int) (hn : n ≤ 9223372036854775807) :
    Calls Tryz.prog 58 #[.pointer (some ⟨bd, 0, none⟩), .int .i64 n] w fun e w' => e = .returned (.tuple #[]) ∧ LiveTo w0 w bd b mb Z (d.slash n) P K con w' := by
  obtain ⟨F, S, R, L, hZ⟩ := h
  refine (disk_cut w bd d F L.disk n hn).mono ?_
  rintro e w' ⟨rfl, hd, hk⟩
  have hF : F bd := by obtain ⟨_, _, _, _, hF, _⟩ := L.disk; exact hF
  have hk' : Kept F w w' := hk.mono fun x _ e => by rw [show x = bd from e]; exact hF
  exact ⟨rfl, Z, ⟨F, S, R, L.next (L.pool.kept hk' L.Fb L.Fm L.FS.symm) hd hk' (Grows.refl _ _) (Grows.refl _ _) L.FS (fun x _ q => .inl q) (by rw [Dsk.slash_good]) rfl rfl L.keyed L.used L.len L.held, hZ⟩, Grows.refl _ _, hk'.mono fun x _ q => hZ x (.inl q)⟩
section
variable {w0 w : World} {md m : Nat} {d : Dsk} {Q : DPl} {K Z : Nat → Prop} {con : Nat → PgM}
theorem DLive.cut (h : DLive w0 w md m d Q K con Z) (n : Int) (hn0 : -9223372036854775808 ≤ n) (hn : n ≤ 9223372036854775807) :
    Calls Tryz.prog 59 #[.pointer (some ⟨md, 0, none⟩), .int .i64 n] w fun e w' => e = .returned (.tuple #[]) ∧ DLiveTo w0 w md m Z (d.slash n) Q K con w' := by
  obtain ⟨DR, S, R, L, hZ⟩ := h
  refine (doc_cut w md d DR L.disk n hn0 hn).mono ?_
  rintro e w' ⟨rfl, hd, hk⟩
  exact ⟨rfl, Z, ⟨DR, S, R, L.next (L.pool.kept hk (fun e => L.mmd e) (fun x hs e => L.Sd ((show x = md from e) ▸ hs))) (L.under.mono hk.size) hd hk (Grows.refl _ _) (Grows.refl _ _) L.SD L.Dm L.Sd (fun x _ e => .inr (.inl e)) (by rw [Dsk.slash_good]) rfl rfl L.keyed L.last L.len L.held, hZ⟩, Grows.refl _ _, hk.mono fun x _ e => hZ x (.inr (.inr (.inr (.inl e))))⟩
theorem DLive.away {w' : World} {G : Nat → Prop} (h : DLive w0 w md m d Q K con Z) (hk : Kept G w w') (hG : ∀ x, G x → ¬ Z x ∧ w0.heap.size ≤ x) : DLive w0 w' md m d Q K con Z := by
  obtain ⟨DR, S, R, L, hZ⟩ := h
  have h0 := L.kept.size
  have hs := hk.size
  have hx : ∀ x, K x → ∀ y, (y = x ∨ R x y) → ¬ G y := fun x hK y hy hg => (hG y hg).1 (hZ y (.inr (.inr (.inr (.inr ⟨x, hK, hy⟩)))))
  exact ⟨DR, S, R, ⟨L.pool.kept hk (fun e => (hG m e).1 (hZ m (.inr (.inr (.inl rfl))))) (fun x hs e => (hG x e).1 (hZ x (.inl hs))), L.under.mono hs, L.disk.kept hk (fun e => (hG md e).1 (hZ md (.inr (.inr (.inr (.inl rfl)))))) (fun x hd e => (hG x e).1 (hZ x (.inr (.inl hd)))), L.fit, L.keyed, L.last, L.len, L.room,
    fun x hK => ⟨(L.page x hK).1.kept hk (hx x hK x (.inl rfl)) (fun y hy => hx x hK y (.inr hy)), (L.page x hK).2⟩, L.held, fun x hK y hy => by
      obtain ⟨f1, f2, f3, f4, f5, f6⟩ := L.far x hK y hy
      exact ⟨f1, f2, f3, f4, f5, by omega⟩, L.apart, L.mmd, L.SD, L.Dm, L.Sd, L.new, L.kept.trans hk fun x hx hg => by have := (hG x hg).2; omega⟩, hZ⟩
end
structure DuoAt (w0 w : World) (bd b mb md m : Nat) (d : Dsk) (P : Pl) (Q : DPl) (con dcon : Nat → PgM) (f : Int → DHd) (φ : Nat → Nat) (K K' Z Z' : Nat → Prop) (n : Nat) : Prop where
  live : Live w0 w bd b mb d P K con Z
  dlive : DLive w0 w md m d Q K' dcon Z'
  twin : Twin P con Q dcon f φ K
  img : ∀ x, K x → K' (φ x)
  inj : ∀ x y, K x → K y → φ x = φ y → x = y
  apart : Disj Z Z'
  under : Under Z w.heap.size
  under' : Under Z' w.heap.size
  old : ∀ x, (Z x ∨ Z' x) → w0.heap.size ≤ x
  byt : d.Byt
  ops : d.ops ≤ 1000 * n
  clock : P.clock ≤ n ∧ Q.clock ≤ n
  nums : P.hits ≤ n ∧ P.reads ≤ n ∧ P.wrote ≤ 1000 * n
  pins : ∀ p ∈ P.all, p.2.pins ≤ n
def Duo (w0 w : World) (bd b mb md m : Nat) (pages room sect n : Nat) (t : List (Nat × Nat)) (Z Z' : Nat → Prop) : Prop :=
  ∃ d P Q con dcon f φ K K', DuoAt w0 w bd b mb md m d P Q con dcon f φ K K' Z Z' n ∧ P.pages = pages ∧ P.room = room ∧ d.good.length = sect ∧ ∀ x ∈ t, K x.1 ∧ φ x.1 = x.2
def DuoTo (w0 w : World) (bd b mb md m : Nat) (pages room sect n : Nat) (t : List (Nat × Nat)) (Z Z' : Nat → Prop) (w' : World) : Prop :=
  ∃ Z1 Z1', Duo w0 w' bd b mb md m pages room sect n t Z1 Z1' ∧ Grows Z w.heap.size Z1 ∧ Grows Z' w.heap.size Z1' ∧ Kept (fun x => Z x ∨ Z' x) w w'
theorem Live.low {w0 w : World} {bd b mb : Nat} {d : Dsk} {P : Pl} {K Z : Nat → Prop} {con : Nat → PgM} (h : Live w0 w bd b mb d P K con Z) : Live w0 w bd b mb d P K con (fun x => Z x ∧ x < w.heap.size) := by
  obtain ⟨F, S, R, L, hZ⟩ := h
  refine ⟨F, S, R, L, fun x hx => ⟨hZ x hx, ?_⟩⟩
  rcases hx with e | e | e | e | e | e
  · exact L.disk.under x e
  · have := L.pool.lt; omega
  · have := L.pool.map.lt; omega
  · exact L.pool.under x e
  · exact (L.far x (.inl e)).2.2.2.2.2
  · exact (L.far x (.inr e)).2.2.2.2.2
theorem DLive.low {w0 w : World} {md m : Nat} {d : Dsk} {Q : DPl} {K Z : Nat → Prop} {con : Nat → PgM} (h : DLive w0 w md m d Q K con Z) : DLive w0 w md m d Q K con (fun x => Z x ∧ x < w.heap.size) := by
  obtain ⟨DR, S, R, L, hZ⟩ := h
  refine ⟨DR, S, R, L, fun x hx => ⟨hZ x hx, ?_⟩⟩
  rcases hx with e | e | e | e | ⟨y, hy, e⟩
  · exact L.under x e
  · exact L.disk.under x e
  · have := L.pool.lt; omega
  · have := L.disk.lt; omega
  · exact (L.far y hy x e).2.2.2.2.2
section
variable {w0 w : World} {bd b mb md m : Nat} {d : Dsk} {P : Pl} {Q : DPl} {con dcon : Nat → PgM} {f : Int → DHd} {φ : Nat → Nat} {K K' Z Z' : Nat → Prop} {n : Nat}
theorem DuoAt.nob (D : DuoAt w0 w bd b mb md m d P Q con dcon f φ K K' Z Z' n) {w' : World} (hk : Kept Nob w w') : DuoAt w0 w' bd b mb md m d P Q con dcon f φ K K' Z Z' n :=
  ⟨D.live.nob hk, D.dlive.nob hk, D.twin, D.img, D.inj, D.apart, fun x h => Nat.lt_of_lt_of_le (D.under x h) hk.size, fun x h => Nat.lt_of_lt_of_le (D.under' x h) hk.size, D.old, D.byt, D.ops, D.clock, D.nums, D.pins⟩
theorem DuoAt.away (D : DuoAt w0 w bd b mb md m d P Q con dcon f φ K K' Z Z' n) {w' : World} {G : Nat → Prop} (hk : Kept G w w') (hG : ∀ x, G x → ¬ Z x ∧ ¬ Z' x ∧ w0.heap.size ≤ x) : DuoAt w0 w' bd b mb md m d P Q con dcon f φ K K' Z Z' n :=
  ⟨D.live.away hk fun x h => ⟨(hG x h).1, (hG x h).2.2⟩, D.dlive.away hk fun x h => ⟨(hG x h).2.1, (hG x h).2.2⟩, D.twin, D.img, D.inj, D.apart, fun x h => Nat.lt_of_lt_of_le (D.under x h) hk.size, fun x h => Nat.lt_of_lt_of_le (D.under' x h) hk.size, D.old, D.byt, D.ops, D.clock, D.nums, D.pins⟩
theorem DuoAt.doc (D : DuoAt w0 w bd b mb md m d P Q con dcon f φ K K' Z Z' n) {w1 w1' : World} (h1 : Kept Z w w1) (hk : Kept Nob w1 w1') : DLive w0 w1' md m d Q K' dcon Z' :=
  (D.dlive.away h1 fun x h => ⟨D.apart x h, D.old x (.inl h)⟩).nob hk
theorem DuoAt.join (D : DuoAt w0 w bd b mb md m d P Q con dcon f φ K K' Z Z' n) {w1 w1' w2 : World} {d2 : Dsk} {P2 : Pl} {Q2 : DPl} {con2 dcon2 : Nat → PgM} {f2 : Int → DHd} {φ2 : Nat → Nat} {K2 K2' : Nat → Prop} {t : List (Nat × Nat)}
    (h1 : LiveTo w0 w bd b mb Z d2 P2 K2 con2 w1) (hk : Kept Nob w1 w1') (h2 : DLiveTo w0 w1' md m Z' d2 Q2 K2' dcon2 w2) (T : Twin P2 con2 Q2 dcon2 f2 φ2 K2) (img : ∀ x, K2 x → K2' (φ2 x)) (inj : ∀ x y, K2 x → K2 y → φ2 x = φ2 y → x = y)
    (byt : d2.Byt) (ops : d2.ops ≤ 1000 * ((n + 1 : Nat) : Int)) (clock : P2.clock ≤ n + 1 ∧ Q2.clock ≤ n + 1) (nums : P2.hits ≤ n + 1 ∧ P2.reads ≤ n + 1 ∧ P2.wrote ≤ 1000 * (n + 1)) (pins : ∀ p ∈ P2.all, p.2.pins ≤ n + 1) (ht : ∀ x ∈ t, K2 x.1 ∧ φ2 x.1 = x.2) {pages room sect : Nat} (hp : P2.pages = pages) (hr : P2.room = room) (hs : d2.good.length = sect) :
    DuoTo w0 w bd b mb md m pages room sect (n + 1) t Z Z' w2 := by
  obtain ⟨Z1, L1, g1, k1⟩ := h1
  obtain ⟨Z2, L2, g2, k2⟩ := h2
  have s1 := k1.size
  have s2 := hk.size
  have s3 := k2.size
  have h0 := D.live.kept.size
  have L1' : Live w0 w2 bd b mb d2 P2 K2 con2 (fun x => Z1 x ∧ x < w1.heap.size) := (L1.low.nob hk).away k2 fun x hx => ⟨fun e => (g1 x e.1).elim (fun e => D.apart x e hx) (fun e => by have := D.under' x hx; omega), D.old x (.inr hx)⟩
  refine ⟨_, _, ⟨d2, P2, Q2, con2, dcon2, f2, φ2, K2, K2', ⟨L1', L2.low, T, img, inj, fun x h h' => ?_, fun x h => by omega, fun x h => h.2, fun x h => ?_, byt, ops, clock, nums, pins⟩, hp, hr, hs, ht⟩, fun x h => g1 x h.1, fun x h => (g2 x h.1).imp (fun e => e) (fun e => by omega), ?_⟩
  · rcases g2 x h'.1 with e | e
    · rcases g1 x h.1 with e' | e'
      · exact D.apart x e' e
      · have := D.under' x e; omega
    · have := h.2; omega
  · rcases h with h | h
    · rcases g1 x h.1 with e | e
      · exact D.old x (.inl e)
      · omega
    · rcases g2 x h.1 with e | e
      · exact D.old x (.inr e)
      · omega
  · exact ((k1.mono fun x _ e => .inl e).trans hk fun _ _ f => f.elim).trans k2 fun x _ e => .inr e
end
section
variable {w0 w : World} {bd b mb md m : Nat} {d : Dsk} {P : Pl} {Q : DPl} {con dcon : Nat → PgM} {f : Int → DHd} {φ : Nat → Nat} {K K' Z Z' : Nat → Prop} {n : Nat} {t : List (Nat × Nat)}
theorem Live.same (h : Live w0 w bd b mb d P K con Z) {w' : World} (hk : Kept Nob w w') : LiveTo w0 w bd b mb Z d P K con w' := ⟨Z, h.nob hk, Grows.refl _ _, hk.nob⟩
theorem DLive.same (h : DLive w0 w md m d Q K' dcon Z') {w' : World} (hk : Kept Nob w w') : DLiveTo w0 w md m Z' d Q K' dcon w' := ⟨Z', h.nob hk, Grows.refl _ _, hk.nob⟩
theorem LiveTo.keeps {d2 : Dsk} {P2 : Pl} {K2 : Nat → Prop} {con2 : Nat → PgM} {w' : World} (h : LiveTo w0 w bd b mb Z d2 P2 K2 con2 w') : Kept Z w w' := by obtain ⟨Z1, h1, h2, h3⟩ := h; exact h3
theorem DLiveTo.keeps {d2 : Dsk} {Q2 : DPl} {K2 : Nat → Prop} {con2 : Nat → PgM} {w' : World} (h : DLiveTo w0 w md m Z' d2 Q2 K2 con2 w') : Kept Z' w w' := by obtain ⟨Z1, h1, h2, h3⟩ := h; exact h3
theorem Live.fine (h : Live w0 w bd b mb d P K con Z) : (∀ x, K x → (con x).Fine) ∧ (∀ p ∈ P.all, K p.2.pg ∧ (con p.2.pg).id = p.1) ∧ (∀ p ∈ P.all, 0 ≤ p.1 ∧ p.1 < (P.pages : Int)) ∧ P.all.length ≤ P.room ∧ P.room ≤ 100 ∧ P.pages ≤ 1024 ∧ 8 * P.pages ≤ d.good.length ∧ P.Keyed := by
  obtain ⟨F, S, R, L, hZ⟩ := h
  exact ⟨fun x hx => (L.page x hx).2, L.held, L.keyed, L.len, L.room, L.pages, L.fit, L.kd⟩
theorem DuoAt.log (D : DuoAt w0 w bd b mb md m d P Q con dcon f φ K K' Z Z' n) (ht : ∀ x ∈ t, K x.1 ∧ φ x.1 = x.2) (i : Int) :
    Calls Tryz.prog 22 #[.pointer (some ⟨b, 0, none⟩), .int .i64 i] w fun e w1 => e = .returned (.tuple #[]) ∧ Kept Z w w1 ∧ ∀ w1', Kept Nob w1 w1' →
      Calls Tryz.prog 54 #[.pointer (some ⟨m, 0, none⟩), .int .i64 i] w1' fun e w2 => e = .returned (.tuple #[]) ∧ DuoTo w0 w bd b mb md m P.pages P.room d.good.length (n + 1) t Z Z' w2 := by
  refine (D.live.log i).mono ?_
  rintro e w1 ⟨rfl, h1⟩
  refine ⟨rfl, h1.keeps, fun w1' hk => ((D.doc h1.keeps hk).log i).mono ?_⟩
  rintro e w2 ⟨rfl, h2⟩
  have T : Twin { P with mark := max P.mark i } con { Q with mark := max Q.mark i } dcon f φ K := D.twin.turn rfl rfl D.twin.pages D.twin.room (by show max Q.mark i = max P.mark i; rw [D.twin.mark]) D.twin.hits D.twin.reads D.twin.wrote (Nat.le_refl _) (Nat.le_refl _)
  exact ⟨rfl, D.join h1 hk h2 T D.img D.inj D.byt (by have := D.ops; omega) ⟨Nat.le_succ_of_le D.clock.1, Nat.le_succ_of_le D.clock.2⟩ ⟨Nat.le_succ_of_le D.nums.1, Nat.le_succ_of_le D.nums.2.1, by have := D.nums.2.2; show P.wrote ≤ _; omega⟩ (fun p hp => Nat.le_succ_of_le (D.pins p hp)) ht rfl rfl rfl⟩
theorem DuoAt.cut (D : DuoAt w0 w bd b mb md m d P Q con dcon f φ K K' Z Z' n) (ht : ∀ x ∈ t, K x.1 ∧ φ x.1 = x.2) (i : Int) (h0 : -9223372036854775808 ≤ i) (h1 : i ≤ 9223372036854775807) :
    Calls Tryz.prog 58 #[.pointer (some ⟨bd, 0, none⟩), .int .i64 i] w fun e w1 => e = .returned (.tuple #[]) ∧ Kept Z w w1 ∧ ∀ w1', Kept Nob w1 w1' →
      Calls Tryz.prog 59 #[.pointer (some ⟨md, 0, none⟩), .int .i64 i] w1' fun e w2 => e = .returned (.tuple #[]) ∧ DuoTo w0 w bd b mb md m P.pages P.room d.good.length (n + 1) t Z Z' w2 := by
  refine (D.live.cut i h1).mono ?_
  rintro e w1 ⟨rfl, q1⟩
  refine ⟨rfl, q1.keeps, fun w1' hk => ((D.doc q1.keeps hk).cut i h0 h1).mono ?_⟩
  rintro e w2 ⟨rfl, q2⟩
  have ho : (d.slash i).ops = d.ops := rfl
  exact ⟨rfl, D.join q1 hk q2 D.twin D.img D.inj (D.byt.slash i) (by have := D.ops; rw [ho]; omega) ⟨Nat.le_succ_of_le D.clock.1, Nat.le_succ_of_le D.clock.2⟩ ⟨Nat.le_succ_of_le D.nums.1, Nat.le_succ_of_le D.nums.2.1, by have := D.nums.2.2; omega⟩ (fun p hp => Nat.le_succ_of_le (D.pins p hp)) ht rfl rfl rfl⟩
theorem DuoAt.stay (D : DuoAt w0 w bd b mb md m d P Q con dcon f φ K K' Z Z' n) (ht : ∀ x ∈ t, K x.1 ∧ φ x.1 = x.2) {w2 : World} (hk : Kept Nob w w2) : DuoTo w0 w bd b mb md m P.pages P.room d.good.length (n + 1) t Z Z' w2 :=
  D.join (D.live.same hk) (Kept.refl _ _) ((D.dlive.nob hk).same (Kept.refl _ _)) D.twin D.img D.inj D.byt (by have := D.ops; omega) ⟨Nat.le_succ_of_le D.clock.1, Nat.le_succ_of_le D.clock.2⟩ ⟨Nat.le_succ_of_le D.nums.1, Nat.le_succ_of_le D.nums.2.1, by have := D.nums.2.2; omega⟩ (fun p hp => Nat.le_succ_of_le (D.pins p hp)) ht rfl rfl rfl
theorem FaultAt.maybe {w : World} {v : Value} {op : ByteArray} {id code : Int} {F : Nat → Prop} (h : FaultAt w v op id code F) (h1 : 1 ≤ code) (h2 : code ≤ 15) : MaybeOuter w v op id code F := .inr ⟨h1, h2, h.outer⟩
def RetDuo (w0 w : World) (bd b mb md m pages room sect n : Nat) (t : List (Nat × Nat)) (Z Z' : Nat → Prop) (v : Value) (k : Int) (e : Ending) (w2 : World) : Prop :=
  ∃ c : Int, e = .returned (.int .i64 c) ∧ MaybeOuter w2 v opPool k c (From w.heap.size) ∧ DuoTo w0 w bd b mb md m pages room sect n t Z Z' w2
theorem DuoAt.unpin (D : DuoAt w0 w bd b mb md m d P Q con dcon f φ K K' Z Z' n) (hn : n ≤ 1000) (ht : ∀ x ∈ t, K x.1 ∧ φ x.1 = x.2) (k : Int) (h0 : -9223372036854775808 ≤ k) (h1 : k ≤ 9223372036854775807) (i : Int) (y : Bool) :
    Calls Tryz.prog 14 #[.pointer (some ⟨b, 0, none⟩), .int .i64 k, .bool y, .int .i64 i] w fun e w1 => ∃ v, e = .returned v ∧ Kept Z w w1 ∧ ∀ w1', Kept Nob w1 w1' →
      Calls Tryz.prog 53 #[.pointer (some ⟨m, 0, none⟩), .int .i64 k, .bool y, .int .i64 i] w1' (RetDuo w0 w bd b mb md m P.pages P.room d.good.length (n + 1) t Z Z' v k) := by
  have hq : Q.all.length ≤ 1000 := by rw [D.twin.len]; have := D.live.fine.2.2.2.1; have := D.live.fine.2.2.2.2.1; omega
  have hno : ∀ (hd : ∀ w1' : World, Kept Nob w w1' → Calls Tryz.prog 53 #[.pointer (some ⟨m, 0, none⟩), .int .i64 k, .bool y, .int .i64 i] w1' fun e w' => e = .returned (.int .i64 14) ∧ w1' = w') (hp : Calls Tryz.prog 14 #[.pointer (some ⟨b, 0, none⟩), .int .i64 k, .bool y, .int .i64 i] w (RetFault w opPool k 14)),
      Calls Tryz.prog 14 #[.pointer (some ⟨b, 0, none⟩), .int .i64 k, .bool y, .int .i64 i] w fun e w1 => ∃ v, e = .returned v ∧ Kept Z w w1 ∧ ∀ w1', Kept Nob w1 w1' →
      Calls Tryz.prog 53 #[.pointer (some ⟨m, 0, none⟩), .int .i64 k, .bool y, .int .i64 i] w1' (RetDuo w0 w bd b mb md m P.pages P.room d.good.length (n + 1) t Z Z' v k) := by
    intro hd hp
    refine hp.mono ?_
    rintro e w1 ⟨g, rfl, hf, hk1⟩
    refine ⟨_, rfl, hk1.nob, fun w1' hk => (hd w1' (hk1.then hk)).mono ?_⟩
    rintro e w2 ⟨rfl, rfl⟩
    exact ⟨14, rfl, (hf.kept hk fun _ _ f => f).maybe (by decide) (by decide), D.stay ht (hk1.then hk)⟩
  have HD : ∀ w1' : World, Kept Nob w w1' → ∃ DR S R, DLiveAt w0 w1' md m d DR Q S K' R dcon := fun w1' hk => by
    obtain ⟨DR, S, R, L, -⟩ := D.dlive.nob hk
    exact ⟨DR, S, R, L⟩
  cases hf : find P.map k with
  | none =>
    refine hno (fun w1' hk => ?_) ?_
    · obtain ⟨DR, S, R, L⟩ := HD w1' hk
      exact doc_unpin_no w1' m md Q S L.pool hq k i y (D.twin.find_no hf)
    · obtain ⟨F, S, R, L, -⟩ := D.live
      exact pool_unpin_no w b bd mb P S L.pool k h0 h1 i y hf
  | some g =>
    obtain ⟨x, hx, -⟩ : ∃ x, (k, x) ∈ P.all ∧ x.g = g := by
      unfold Proofs.YthppgchmamonnaaGreatDoor.find at hf
      obtain ⟨y, hy, rfl⟩ := Option.map_eq_some_iff.1 hf
      obtain ⟨⟨a, x⟩, hp, rfl⟩ := List.mem_map.1 (List.mem_of_find?_eq_some hy)
      have := List.find?_some hy
      simp only [beq_iff_eq] at this
      exact ⟨x, this ▸ hp, rfl⟩
    have hfq := D.twin.find hx
    have hpn : (f k).pins = x.pins := (D.twin.same _ hx).1
    by_cases hp : x.pins = 0
    · refine hno (fun w1' hk => ?_) ?_
      · obtain ⟨DR, S, R, L⟩ := HD w1' hk
        exact doc_unpin_zero w1' m md Q S L.pool hq k i y (f k) hfq (by rw [hpn]; exact hp)
      · obtain ⟨F, S, R, L, -⟩ := D.live
        exact pool_unpin_zero w b bd mb P S L.pool k h0 h1 i y x hx hp
    · have hky := D.live.fine.2.2.1 _ hx
      simp only at hky
      obtain ⟨k, rfl⟩ : ∃ j : Nat, k = j := ⟨k.toNat, by omega⟩
      have hpb : x.pins ≤ n := D.pins _ hx
      refine (D.live.unpin k i y x hx (by omega) (by omega)).mono ?_
      rintro e w1 ⟨rfl, q1⟩
      refine ⟨_, rfl, q1.keeps, fun w1' hk => ((D.doc q1.keeps hk).unpin k i y (f k) hfq (by omega) (by omega)).mono ?_⟩
      rintro e w2 ⟨rfl, q2⟩
      refine ⟨0, rfl, .inl ⟨rfl, rfl⟩, D.join q1 hk q2 (D.twin.unpin hx y i) D.img D.inj D.byt (by have := D.ops; omega) ⟨Nat.le_succ_of_le D.clock.1, Nat.le_succ_of_le D.clock.2⟩ ⟨Nat.le_succ_of_le D.nums.1, Nat.le_succ_of_le D.nums.2.1, by have := D.nums.2.2; show P.wrote ≤ _; omega⟩ (fun p hp => ?_) ht rfl rfl rfl⟩
      obtain ⟨q, hq, rfl⟩ := List.mem_map.1 hp
      by_cases e : q.1 = (k : Int)
      · rw [if_pos e]; show x.pins - 1 ≤ _; omega
      · rw [if_neg e]; exact Nat.le_succ_of_le (D.pins q hq)
end
theorem Dsk.wrL_codes : ∀ (l : List (Nat × PgM)) (r : Dsk × Nat), (r.2 = 0 ∨ r.2 = 9) → r.1.now.length = r.1.good.length → (∀ kp ∈ l, 8 * kp.1 + 8 ≤ r.1.good.length ∧ (bytesOf kp.2).length = 512) → (l.foldl Dsk.wrStep r).2 = 0 ∨ (l.foldl Dsk.wrStep r).2 = 9
  | [], _, h, _, _ => h
  | kp :: l, r, h, hl, hb => by
    rw [List.foldl_cons]
    have hk := hb kp (by simp)
    by_cases h0 : r.2 = 0
    · have e : Dsk.wrStep r kp = r.1.wr (8 * kp.1) (bytesOf kp.2) 8 := by unfold Dsk.wrStep; rw [if_pos h0]
      rw [e]
      obtain ⟨c1, c2⟩ := Dsk.wr_code hl hk.1 hk.2 8 (by omega)
      have hg := Dsk.wr_good r.1 (8 * kp.1) (bytesOf kp.2) 8
      exact Dsk.wrL_codes l _ c1 (by rw [c2, hg, hl]) fun x hx => by rw [hg]; exact hb x (by simp [hx])
    · have e : Dsk.wrStep r kp = r := by unfold Dsk.wrStep; rw [if_neg h0]
      rw [e]
      exact Dsk.wrL_codes l r h hl fun x hx => hb x (by simp [hx])
theorem Pl.cleaned_pins (n : Nat) : ∀ (l : List (Int × Hd)) (P : Pl), (∀ x ∈ l, x.2.pins ≤ n) → (∀ p ∈ P.all, p.2.pins ≤ n) → ∀ p ∈ (Pl.cleaned l P).all, p.2.pins ≤ n
  | [], _, _, h => h
  | x :: r, P, hl, h => Pl.cleaned_pins n r (P.cleanStep x) (fun y hy => hl y (by simp [hy])) fun p hp => by
    obtain ⟨q, hq, rfl⟩ := List.mem_map.1 hp
    by_cases e : q.1 = x.1
    · rw [if_pos e]; exact hl x (by simp)
    · rw [if_neg e]; exact h q hq
theorem DPl.cleaned_clock : ∀ (l : List DHd) (Q : DPl), (Q.cleaned l).clock = Q.clock
  | [], _ => rfl
  | x :: r, Q => (DPl.cleaned_clock r (Q.cleanStep x)).trans rfl
theorem DPl.flushA_clock (Q : DPl) (con : Nat → PgM) (d : Dsk) : (DPl.flushA Q con d).2.1.clock = Q.clock := by
  unfold DPl.flushA
  split
  · rfl
  · split
    · rfl
    · split
      · rfl
      · exact DPl.cleaned_clock _ _
theorem Pl.flushA_facts (P : Pl) (con : Nat → PgM) (d : Dsk) (n : Nat) (hp : ∀ p ∈ P.all, p.2.pins ≤ n) (hb : d.Byt) (hf : ∀ p ∈ P.all, (con p.2.pg).Fine) :
    (P.flushA con d).2.1.pages = P.pages ∧ (P.flushA con d).2.1.room = P.room ∧ (P.flushA con d).2.1.clock = P.clock ∧ (P.flushA con d).2.1.hits = P.hits ∧ (P.flushA con d).2.1.reads = P.reads ∧ (P.flushA con d).2.1.wrote ≤ P.wrote + P.all.length ∧
    (P.flushA con d).1.good.length = d.good.length ∧ (P.flushA con d).1.ops ≤ d.ops + 8 * (P.all.length : Int) + 1 ∧ (P.flushA con d).1.Byt ∧ ∀ p ∈ (P.flushA con d).2.1.all, p.2.pins ≤ n := by
  have hrl := P.ripe_len
  have hlen := prsOf_len con P.ripe
  obtain ⟨o1, o2⟩ := Dsk.wrL_ops d (prsOf con P.ripe) (prsOf con P.ripe).length (Nat.le_refl _)
  rw [List.take_length] at o1 o2
  have hB : (d.wrL (prsOf con P.ripe)).1.Byt := hb.wrL _ fun kp hkp => by
    obtain ⟨p, hp, rfl⟩ := List.mem_map.1 hkp
    exact bytesOf_inB _ (hf p (Pl.ripe_mem.1 hp).1).bytes
  have hs := Dsk.sync_ops2 (d.wrL (prsOf con P.ripe)).1
  have hsl := Dsk.sync_len (d.wrL (prsOf con P.ripe)).1
  have hg : (d.wrL (prsOf con P.ripe)).1.good.length = d.good.length := by rw [o2]
  obtain ⟨k1, k2, k3, k4, k5, k6, k7, k8⟩ := Pl.cleaned_keeps P.ripe P
  unfold Pl.flushA
  split
  · exact ⟨rfl, rfl, rfl, rfl, rfl, by simp, rfl, by simp only; omega, hb, hp⟩
  · split
    · exact ⟨rfl, rfl, rfl, rfl, rfl, by simp, hg, by simp only; omega, hB, hp⟩
    · split
      · exact ⟨rfl, rfl, rfl, rfl, rfl, by simp, by rw [hsl, hg], by simp only; omega, hB.sync, hp⟩
      · exact ⟨k1, k2, k4, k5, k6, by show (Pl.cleaned P.ripe P).wrote ≤ _; omega, by rw [hsl, hg], by simp only; omega, hB.sync, Pl.cleaned_pins n P.ripe P (fun x hx => hp x (Pl.ripe_mem.1 hx).1) hp⟩
section
variable {w0 w : World} {bd b mb md m : Nat} {d : Dsk} {P : Pl} {Q : DPl} {con dcon : Nat → PgM} {f : Int → DHd} {φ : Nat → Nat} {K K' Z Z' : Nat → Prop} {n : Nat} {t : List (Nat × Nat)}
theorem Live.len (h : Live w0 w bd b mb d P K con Z) : d.now.length = d.good.length := by
  obtain ⟨F, S, R, L, hZ⟩ := h
  exact L.disk.wf.len
theorem Live.flush_any (h : Live w0 w bd b mb d P K con Z) (ho : d.ops ≤ 1000000000) (hw : P.wrote ≤ 1000000000000) :
    Calls Tryz.prog 21 #[.pointer (some ⟨b, 0, none⟩)] w fun e w' => ∃ v, e = .returned v ∧ MaybeOuter w' v opPool 0 (P.flushA con d).2.2 (From w.heap.size) ∧ LiveTo w0 w bd b mb Z (P.flushA con d).1 (P.flushA con d).2.1 K con w' := by
  obtain ⟨F, S, R, L, hZ⟩ := h
  refine (L.flush_any ho hw).mono ?_
  rintro e w' ⟨v, rfl, hm, ⟨F', L', hg⟩, hk⟩
  refine ⟨v, rfl, hm, fun x => Z x ∨ w.heap.size ≤ x, ⟨F', S, R, L', fun x hx => ?_⟩, fun x hx => hx, hk.mono fun x _ q => ?_⟩
  · rcases hx with q | q
    · exact (hg x q).imp (fun q => hZ x (.inl q)) (fun q => q)
    · exact .inl (hZ x (.inr q))
  · rcases q with q | q | q | q
    · exact hZ x (.inl q)
    · exact hZ x (.inr (.inl q))
    · exact hZ x (.inr (.inr (.inl q)))
    · exact hZ x (.inr (.inr (.inr (.inl q))))
theorem DuoAt.flush (D : DuoAt w0 w bd b mb md m d P Q con dcon f φ K K' Z Z' n) (hn : n ≤ 1000) (ht : ∀ x ∈ t, K x.1 ∧ φ x.1 = x.2) :
    Calls Tryz.prog 21 #[.pointer (some ⟨b, 0, none⟩)] w fun e w1 => ∃ v, e = .returned v ∧ Kept Z w w1 ∧ ∀ w1', Kept Nob w1 w1' →
      Calls Tryz.prog 55 #[.pointer (some ⟨m, 0, none⟩)] w1' (RetDuo w0 w bd b mb md m P.pages P.room d.good.length (n + 1) t Z Z' v 0) := by
  obtain ⟨hfi, hhe, hky, hle, hrm, hpg, hft, hkd⟩ := D.live.fine
  have hops := D.ops
  have hnum := D.nums
  have hck := D.clock
  have hwq := D.twin.wrote
  obtain ⟨f1, f2, f3, f4, f5, f6, f7, f8, f9, f10⟩ := P.flushA_facts con d n D.pins D.byt fun p hp => hfi _ (hhe p hp).1
  have hcode : (d.wrL (prsOf con P.ripe)).2 = 0 ∨ (d.wrL (prsOf con P.ripe)).2 = 9 := Dsk.wrL_codes (prsOf con P.ripe) (d, 0) (.inl rfl) D.live.len fun kp hkp => by
    obtain ⟨p, hp, rfl⟩ := List.mem_map.1 hkp
    have hp := (Pl.ripe_mem.1 hp).1
    have := hky p hp
    exact ⟨by simp only; omega, bytesOf_length _ (hfi _ (hhe p hp).1).good.used⟩
  obtain ⟨t1, t2, f', t3⟩ := D.twin.flush hky d hcode
  have hqc := DPl.flushA_clock Q dcon d
  refine (D.live.flush_any (by omega) (by omega)).mono ?_
  rintro e w1 ⟨v, rfl, hm, q1⟩
  refine ⟨v, rfl, q1.keeps, fun w1' hk => ((D.doc q1.keeps hk).flush (by omega) (by omega)).mono ?_⟩
  rintro e w2 ⟨rfl, q2⟩
  have hk2 := q2.keeps
  rw [t1] at q2
  refine ⟨(P.flushA con d).2.2, by rw [t2], (hm.kept hk fun _ _ f => f).kept hk2 fun x hx hz => ?_, D.join q1 hk q2 t3 D.img D.inj f9 (by omega) ⟨by omega, by omega⟩ ⟨by omega, by omega, by omega⟩ (fun p hp => Nat.le_succ_of_le (f10 p hp)) ht f1 f2 f7⟩
  have h1 := D.under' x hz
  have h2 : w.heap.size ≤ x := hx
  omega
end
end Go.Proofs.YthppgchmamonnaaGreatDoor
