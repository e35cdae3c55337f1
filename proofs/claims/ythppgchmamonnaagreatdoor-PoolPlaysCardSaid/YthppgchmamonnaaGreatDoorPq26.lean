/- The pool with its pages' contents: what holds between calls; how the calls turn it. The pool: evict, where the disk refuses; whatever it answers. The pool: read of what is no page. The pool: Pin of a page that is not held, where evict or read refuses. The pool with its pages' contents: evict, Pin of a page that is not held. The pool: Flush, while the power is on. -/
import Derived.Test.YthppgchmamonnaaGreatDoorPq24
import Derived.Test.YthppgchmamonnaaGreatDoorPq25
namespace Go.Proofs.YthppgchmamonnaaGreatDoor
open Go.RowKit
structure PgM.Fine (c : PgM) : Prop where
  good : c.Good
  bytes : ∀ b, some b ∈ c.ss → InB b
structure LiveAt (w0 w : World) (bd b mb : Nat) (d : Dsk) (F : Nat → Prop) (P : Pl) (S K R : Nat → Prop) (con : Nat → PgM) : Prop where
  pool : PoolAt w b bd mb P S
  disk : DiskAt w bd d F
  fit : 8 * P.pages ≤ d.good.length
  keyed : ∀ p ∈ P.all, 0 ≤ p.1 ∧ p.1 < (P.pages : Int)
  used : ∀ p ∈ P.all, p.2.used ≤ P.clock
  len : P.all.length ≤ P.room
  room : P.room ≤ 100
  page : ∀ x, K x → PageAt w x (con x) R ∧ (con x).Fine
  held : ∀ p ∈ P.all, K p.2.pg ∧ (con p.2.pg).id = p.1
  far : ∀ x, (K x ∨ R x) → ¬ F x ∧ x ≠ b ∧ x ≠ mb ∧ ¬ S x ∧ w0.heap.size ≤ x ∧ x < w.heap.size
  Fb : ¬ F b
  Fm : ¬ F mb
  FS : Disj F S
  new : ∀ x, (F x ∨ x = b ∨ x = mb ∨ S x) → w0.heap.size ≤ x
  kept : Kept Nob w0 w
section
variable {w0 w w' : World} {bd b mb : Nat} {d d' : Dsk} {F F' G : Nat → Prop} {P P' : Pl} {S S' K R : Nat → Prop} {con : Nat → PgM}
theorem LiveAt.pages (L : LiveAt w0 w bd b mb d F P S K R con) : P.pages ≤ 1024 := by
  have := L.disk.wf.most; have := L.fit; omega
theorem LiveAt.kd (L : LiveAt w0 w bd b mb d F P S K R con) : P.Keyed := fun p hp => by
  have h := L.keyed p hp
  have := L.pages
  exact ⟨h.1, by omega⟩
theorem LiveAt.next (L : LiveAt w0 w bd b mb d F P S K R con) (hp : PoolAt w' b bd mb P' S') (hd : DiskAt w' bd d' F') (hk : Kept G w w')
    (hF : Grows F w.heap.size F') (hS : Grows S w.heap.size S') (hFS : Disj F' S') (hG : ∀ x, x < w.heap.size → G x → F x ∨ x = b ∨ x = mb ∨ S x)
    (hl : d'.good.length = d.good.length) (h1 : P'.pages = P.pages) (h2 : P'.room = P.room)
    (h3 : ∀ p ∈ P'.all, 0 ≤ p.1 ∧ p.1 < (P.pages : Int)) (h5 : ∀ p ∈ P'.all, p.2.used ≤ P'.clock) (h6 : P'.all.length ≤ P.room) (h7 : ∀ p ∈ P'.all, K p.2.pg ∧ (con p.2.pg).id = p.1) :
    LiveAt w0 w' bd b mb d' F' P' S' K R con := by
  have hs := hk.size
  have hb := L.pool.lt
  have hm := L.pool.map.lt
  have hx : ∀ x, K x ∨ R x → ¬ G x := fun x hx hg => by
    obtain ⟨f1, f2, f3, f4, -, f6⟩ := L.far x hx
    rcases hG x f6 hg with e | e | e | e
    · exact f1 e
    · exact f2 e
    · exact f3 e
    · exact f4 e
  have h0 := L.kept.size
  refine ⟨hp, hd, by rw [h1, hl]; exact L.fit, by rw [h1]; exact h3, h5, by rw [h2]; exact h6, by rw [h2]; exact L.room, fun x hK => ⟨(L.page x hK).1.kept hk (hx x (.inl hK)) (fun y hy => hx y (.inr hy)), (L.page x hK).2⟩, h7, fun x hx => ?_, fun f => ?_, fun f => ?_, hFS, fun x hx => ?_, L.kept.trans hk fun x hx hg => ?_⟩
  · obtain ⟨f1, f2, f3, f4, f5, f6⟩ := L.far x hx
    refine ⟨fun f => ?_, f2, f3, fun f => ?_, f5, by omega⟩
    · rcases hF x f with e | e
      · exact f1 e
      · omega
    · rcases hS x f with e | e
      · exact f4 e
      · omega
  · rcases hF b f with e | e
    · exact L.Fb e
    · omega
  · rcases hF mb f with e | e
    · exact L.Fm e
    · omega
  · rcases hx with e | e | e | e
    · rcases hF x e with e | e
      · exact L.new x (.inl e)
      · omega
    · exact L.new x (.inr (.inl e))
    · exact L.new x (.inr (.inr (.inl e)))
    · rcases hS x e with e | e
      · exact L.new x (.inr (.inr (.inr e)))
      · omega
  · have := hG x (Nat.lt_of_lt_of_le hx h0) hg
    have := L.new x this
    omega
theorem LiveAt.nob (L : LiveAt w0 w bd b mb d F P S K R con) (hk : Kept Nob w w') : LiveAt w0 w' bd b mb d F P S K R con :=
  L.next (L.pool.nob hk) (L.disk.kept hk (fun _ _ f => f)) hk (Grows.refl _ _) (Grows.refl _ _) L.FS (fun _ _ f => f.elim) rfl rfl rfl L.keyed L.used L.len L.held
theorem LiveAt.turn (L : LiveAt w0 w bd b mb d F P S K R con) (hp : PoolAt w' b bd mb P' S) (hk : Kept G w w') (hG : ∀ x, x < w.heap.size → G x → x = b ∨ x = mb ∨ S x) (h1 : P'.pages = P.pages) (h2 : P'.room = P.room)
    (h3 : ∀ p ∈ P'.all, 0 ≤ p.1 ∧ p.1 < (P.pages : Int)) (h5 : ∀ p ∈ P'.all, p.2.used ≤ P'.clock) (h6 : P'.all.length ≤ P.room) (h7 : ∀ p ∈ P'.all, K p.2.pg ∧ (con p.2.pg).id = p.1) :
    LiveAt w0 w' bd b mb d F P' S K R con :=
  L.next hp (L.disk.kept hk fun x hx hg => by
    rcases hG x (L.disk.under x hx) hg with e | e | e
    · exact L.Fb (e ▸ hx)
    · exact L.Fm (e ▸ hx)
    · exact L.FS x hx e) hk (Grows.refl _ _) (Grows.refl _ _) L.FS (fun x hx hg => .inr (hG x hx hg)) rfl h1 h2 h3 h5 h6 h7
theorem LiveAt.more (L : LiveAt w0 w bd b mb d F P S K R con) {pg : Nat} {c : PgM} {R2 : Nat → Prop} (hpg : PageAt w pg c R2) (hc : c.Fine)
    (hn : ∀ x, (x = pg ∨ R2 x) → ¬ F x ∧ x ≠ b ∧ x ≠ mb ∧ ¬ S x ∧ w0.heap.size ≤ x ∧ x < w.heap.size) (h1 : ¬ K pg) (h2 : ¬ R pg) (h3 : ∀ x, R2 x → ¬ K x) :
    LiveAt w0 w bd b mb d F P S (fun x => K x ∨ x = pg) (fun x => R x ∨ R2 x) (fun x => if x = pg then c else con x) := by
  have hcon : ∀ x, K x → (if x = pg then c else con x) = con x := fun x hx => if_neg fun (e : x = pg) => h1 (e ▸ hx)
  refine ⟨L.pool, L.disk, L.fit, L.keyed, L.used, L.len, L.room, fun x hx => ?_, fun p hp => ?_, fun x hx => ?_, L.Fb, L.Fm, L.FS, L.new, L.kept⟩
  · rcases hx with hx | rfl
    · rw [hcon x hx]
      exact ⟨(L.page x hx).1.mono (fun y _ hy => .inl hy) (fun e => e.elim (fun e => by obtain ⟨lv, -, -, q⟩ := (L.page x hx).1; exact q e) (fun e => h3 x e hx)), (L.page x hx).2⟩
    · rw [if_pos rfl]
      exact ⟨hpg.mono (fun y _ hy => .inr hy) (fun e => e.elim h2 (fun e => by obtain ⟨lv, -, -, q⟩ := hpg; exact q e)), hc⟩
  · have := L.held p hp
    exact ⟨.inl this.1, by rw [hcon _ this.1]; exact this.2⟩
  · rcases hx with (hx | hx) | (hx | hx)
    · exact L.far x (.inl hx)
    · exact hn x (.inl hx)
    · exact L.far x (.inr hx)
    · exact hn x (.inr hx)
end
def Live (w0 w : World) (bd b mb : Nat) (d : Dsk) (P : Pl) (K : Nat → Prop) (con : Nat → PgM) (Z : Nat → Prop) : Prop :=
  ∃ F S R, LiveAt w0 w bd b mb d F P S K R con ∧ ∀ x, (F x ∨ x = b ∨ x = mb ∨ S x ∨ K x ∨ R x) → Z x
theorem Live.nob {w0 w w' : World} {bd b mb : Nat} {d : Dsk} {P : Pl} {K Z : Nat → Prop} {con : Nat → PgM} (h : Live w0 w bd b mb d P K con Z) (hk : Kept Nob w w') : Live w0 w' bd b mb d P K con Z := by
  obtain ⟨F, S, R, L, hZ⟩ := h
  exact ⟨F, S, R, L.nob hk, hZ⟩
theorem Live.kept {w0 w : World} {bd b mb : Nat} {d : Dsk} {P : Pl} {K Z : Nat → Prop} {con : Nat → PgM} (h : Live w0 w bd b mb d P K con Z) : Kept Nob w0 w := by
  obtain ⟨F, S, R, L, hZ⟩ := h
  exact L.kept
def LiveTo (w0 w : World) (bd b mb : Nat) (Z : Nat → Prop) (d : Dsk) (P : Pl) (K : Nat → Prop) (con : Nat → PgM) (w' : World) : Prop :=
  ∃ Z', Live w0 w' bd b mb d P K con Z' ∧ Grows Z w.heap.size Z' ∧ Kept Z w w'
theorem Live.hit {w0 w : World} {bd b mb : Nat} {d : Dsk} {P : Pl} {K Z : Nat → Prop} {con : Nat → PgM} (h : Live w0 w bd b mb d P K con Z) (k : Nat) (x : Hd) (hx : ((k : Int), x) ∈ P.all)
    (hc : P.clock ≤ 1000000000000) (hh : P.hits ≤ 1000000000000) (hp : x.pins ≤ 1000000000000) :
    Calls Tryz.prog 12 #[.pointer (some ⟨b, 0, none⟩), .int .i64 k] w fun e w' =>
      e = .returned (.tuple #[.pointer (some ⟨x.pg, 0, none⟩), .nilIface]) ∧ LiveTo w0 w bd b mb Z d (P.hit k x) K con w' := by
  obtain ⟨F, S, R, L, hZ⟩ := h
  have hky := L.keyed _ hx
  have hpg := L.pages
  refine (pool_pin_hit w b bd mb P S L.pool k x hx (by simp at hky; omega) (by omega) hc hh hp).mono ?_
  rintro e w' ⟨rfl, hp, hk⟩
  refine ⟨rfl, Z, ⟨F, S, R, L.turn hp hk (fun _ _ h => h) rfl rfl (fun p hp => ?_) (fun p hp => ?_) ?_ (fun p hp => ?_), hZ⟩, Grows.refl _ _, hk.mono fun x _ q => hZ x (by rcases q with q | q | q; exact .inr (.inl q); exact .inr (.inr (.inl q)); exact .inr (.inr (.inr (.inl q))))⟩
  · rcases Pl.mem_set hp with rfl | h
    · exact hky
    · exact L.keyed p h
  · rcases Pl.mem_set hp with rfl | h
    · exact Nat.le_refl _
    · exact Nat.le_succ_of_le (L.used p h)
  · rw [Pl.hit, Pl.set_length]; exact L.len
  · rcases Pl.mem_set hp with rfl | h
    · exact (L.held _ hx :)
    · exact L.held p h
theorem Live.unpin {w0 w : World} {bd b mb : Nat} {d : Dsk} {P : Pl} {K Z : Nat → Prop} {con : Nat → PgM} (h : Live w0 w bd b mb d P K con Z) (k : Nat) (n : Int) (y : Bool) (x : Hd) (hx : ((k : Int), x) ∈ P.all) (h1 : 1 ≤ x.pins) (h2 : x.pins ≤ 1000000000000) :
    Calls Tryz.prog 14 #[.pointer (some ⟨b, 0, none⟩), .int .i64 k, .bool y, .int .i64 n] w fun e w' =>
      e = .returned .nilIface ∧ LiveTo w0 w bd b mb Z d (P.set k (x.less y n)) K con w' := by
  obtain ⟨F, S, R, L, hZ⟩ := h
  have hky := L.keyed _ hx
  have hpg := L.pages
  simp only at hky
  refine (pool_unpin w b bd mb P S L.pool k (by omega) (by omega) n y x hx h1 h2).mono ?_
  rintro e w' ⟨rfl, hp, hk⟩
  refine ⟨rfl, Z, ⟨F, S, R, L.turn hp hk (fun _ _ h => h) rfl rfl (fun p hp => ?_) (fun p hp => ?_) ?_ (fun p hp => ?_), hZ⟩, Grows.refl _ _, hk.mono fun x _ q => hZ x (by rcases q with q | q | q; exact .inr (.inl q); exact .inr (.inr (.inl q)); exact .inr (.inr (.inr (.inl q))))⟩
  · rcases Pl.mem_set hp with rfl | h
    · exact hky
    · exact L.keyed p h
  · rcases Pl.mem_set hp with rfl | h
    · exact (L.used _ hx :)
    · exact L.used p h
  · rw [Pl.set_length]; exact L.len
  · rcases Pl.mem_set hp with rfl | h
    · exact (L.held _ hx :)
    · exact L.held p h
theorem Live.log {w0 w : World} {bd b mb : Nat} {d : Dsk} {P : Pl} {K Z : Nat → Prop} {con : Nat → PgM} (h : Live w0 w bd b mb d P K con Z) (n : Int) :
    Calls Tryz.prog 22 #[.pointer (some ⟨b, 0, none⟩), .int .i64 n] w fun e w' => e = .returned (.tuple #[]) ∧ LiveTo w0 w bd b mb Z d { P with mark := max P.mark n } K con w' := by
  obtain ⟨F, S, R, L, hZ⟩ := h
  refine (pool_log w b bd mb P S L.pool n).mono ?_
  rintro e w' ⟨rfl, hp, hk⟩
  exact ⟨rfl, Z, ⟨F, S, R, L.turn hp hk (fun x _ h => .inl h) rfl rfl L.keyed L.used L.len L.held, hZ⟩, Grows.refl _ _, hk.mono fun x _ q => hZ x (.inr (.inl q))⟩
theorem Live.insert {w0 w : World} {bd b mb : Nat} {d : Dsk} {P : Pl} {K Z : Nat → Prop} {con : Nat → PgM} (h : Live w0 w bd b mb d P K con Z) (pg : Nat) (hpg : K pg) (v : Value) (bs : List Int) (G : Nat → Prop) (hb : Reads w v (bs.map (Value.int .u8)) G)
    (h1 : bs.length ≤ 400) (h2 : freeIdx (con pg).ss < 60) (h3 : usedOf (withOf (con pg).ss (freeIdx (con pg).ss) bs) ≤ 512) (h4 : InB bs) :
    Calls Tryz.prog 24 #[.pointer (some ⟨pg, 0, none⟩), v] w fun e w' => e = .returned (.tuple #[.int .i64 (freeIdx (con pg).ss), .nilIface]) ∧
      LiveTo w0 w bd b mb Z d P K (fun x => if x = pg then { con pg with ss := withOf (con pg).ss (freeIdx (con pg).ss) bs } else con x) w' := by
  obtain ⟨F, S, R, L, hZ⟩ := h
  obtain ⟨hp, hf⟩ := L.page pg hpg
  have hg := hf.good
  refine (page_insert w pg (con pg) R hp ⟨hg.len, fun s hs => Nat.le_trans (hg.size s hs) (by omega)⟩ v bs G hb h1 h2 h3).mono ?_
  rintro e w' ⟨rfl, hp', hk⟩
  have hs := hk.size
  have hNp : ¬ R pg := by obtain ⟨lv, -, -, q⟩ := hp; exact q
  obtain ⟨f1, f2, f3, f4, f5, f6⟩ := L.far pg (.inl hpg)
  have hfar : ∀ x, (K x ∨ (R x ∧ x < w.heap.size ∨ w.heap.size ≤ x) ∧ x < w'.heap.size) → ¬ F x ∧ x ≠ b ∧ x ≠ mb ∧ ¬ S x ∧ w0.heap.size ≤ x ∧ x < w'.heap.size := by
    intro x hx
    have hlow : (K x ∨ R x) → ¬ F x ∧ x ≠ b ∧ x ≠ mb ∧ ¬ S x ∧ w0.heap.size ≤ x ∧ x < w'.heap.size := fun h => by
      obtain ⟨q1, q2, q3, q4, q5, q6⟩ := L.far x h
      exact ⟨q1, q2, q3, q4, q5, by omega⟩
    rcases hx with h | ⟨h | h, h'⟩
    · exact hlow (.inl h)
    · exact hlow (.inr h.1)
    · have b1 := L.pool.lt
      have b2 := L.pool.map.lt
      have b3 := L.kept.size
      exact ⟨fun e => by have := L.disk.under x e; omega, by omega, by omega, fun e => by have := L.pool.under x e; omega, by omega, h'⟩
  refine ⟨rfl, fun x => Z x ∨ w.heap.size ≤ x, ⟨F, S, fun x => (R x ∧ x < w.heap.size ∨ w.heap.size ≤ x) ∧ x < w'.heap.size, ⟨L.pool.kept hk (fun e => f2 (show b = pg from e).symm) (fun e => f3 (show mb = pg from e).symm) (fun x hx e => f4 (by rw [← show x = pg from e]; exact hx)),
    L.disk.kept hk (fun x hx e => f1 (by rw [← show x = pg from e]; exact hx)), L.fit, L.keyed, L.used, L.len, L.room, fun x hx => ?_, fun p hp => ?_, hfar, L.Fb, L.Fm, L.FS, L.new, L.kept.trans hk fun x hx e => by have e : x = pg := e; omega⟩, fun x hx => ?_⟩, fun x hx => hx, hk.mono fun x _ e => hZ x (.inr (.inr (.inr (.inr (.inl (by rw [show x = pg from e]; exact hpg))))))⟩
  · by_cases hxp : x = pg
    · subst hxp
      rw [if_pos rfl]
      refine ⟨hp'.mono (fun y hy q => ⟨q, hy⟩) (fun e => e.1.elim (fun e => hNp e.1) (fun e => by omega)), ⟨⟨hg.kind, hg.id, ?_, ?_, h3, ?_⟩, ?_⟩⟩
      · show (withOf _ _ _).length ≤ 60
        unfold withOf
        split
        · rw [List.length_set]; exact hg.len
        · rw [List.length_append]; have := freeIdx_le (con x).ss; simp; omega
      · exact withOf_sized hg.size h1
      · show (withOf _ _ _).getLast? ≠ some none
        unfold withOf
        split
        · rename_i hlt
          have hpos : 0 < (con x).ss.length := by omega
          have hl := hg.last
          rw [List.getLast?_eq_getElem?] at hl ⊢
          rw [List.length_set]
          by_cases he : freeIdx (con x).ss = (con x).ss.length - 1
          · rw [he, List.getElem?_set_self (by omega)]; simp
          · rw [List.getElem?_set_ne he]; exact hl
        · simp
      · intro b' hb'
        simp only [withOf] at hb'
        split at hb'
        · rcases List.mem_or_eq_of_mem_set hb' with e | e
          · exact hf.bytes b' e
          · rw [Option.some.inj e]; exact h4
        · rcases List.mem_append.1 hb' with e | e
          · exact hf.bytes b' e
          · rw [Option.some.inj (List.mem_singleton.1 e)]; exact h4
    · rw [if_neg hxp]
      have hxl := (L.far x (.inl hx)).2.2.2.2.2
      refine ⟨((L.page x hx).1.kept hk hxp (fun y hy e => hNp (by rw [← show y = pg from e]; exact hy))).mono (fun y hy q => ⟨.inl ⟨q, (L.far y (.inr q)).2.2.2.2.2⟩, hy⟩) (fun e => e.1.elim (fun e => by obtain ⟨lv, -, -, q⟩ := (L.page x hx).1; exact q e.1) (fun e => by omega)), (L.page x hx).2⟩
  · have := L.held p hp
    by_cases hxp : p.2.pg = pg
    · rw [if_pos hxp]; exact ⟨this.1, by rw [← hxp]; exact this.2⟩
    · rw [if_neg hxp]; exact this
  · rcases hx with hx | hx | hx | hx | hx | hx
    · exact .inl (hZ x (.inl hx))
    · exact .inl (hZ x (.inr (.inl hx)))
    · exact .inl (hZ x (.inr (.inr (.inl hx))))
    · exact .inl (hZ x (.inr (.inr (.inr (.inl hx)))))
    · exact .inl (hZ x (.inr (.inr (.inr (.inr (.inl hx))))))
    · rcases hx.1 with hx | hx
      · exact .inl (hZ x (.inr (.inr (.inr (.inr (.inr hx.1))))))
      · exact .inr hx
def RetEvBad (w : World) (bd : Nat) (F : Nat → Prop) (d : Dsk) (code : Nat) (e : Ending) (w' : World) : Prop :=
  ∃ v, e = .returned v ∧ InnerAt w' v code (From w.heap.size) ∧ (∃ F', DiskAt w' bd d F' ∧ Grows F w.heap.size F') ∧ Kept F w w'
set_option maxRecDepth 100000 in
set_option maxHeartbeats 8000000 in
theorem pool_evict_bad (w : World) (b bd mb : Nat) (P : Pl) (S : Nat → Prop) (h : PoolAt w b bd mb P S) (hk : P.Keyed) (hl : P.room ≤ P.all.length) (hr : P.all.length ≤ 100) (hu : ∀ p ∈ P.all, p.2.used ≤ 1000000000000) (xk : Int) (x : Hd) (hcl : bestOf P P.all = some (xk, x)) (hdy : x.dirty = true)
    (d1 : Dsk) (F : Nat → Prop) (hUF : Under F w.heap.size) (hFb : ¬ F b) (hFm : ¬ F mb) (hFS : Disj F S) (hops : d1.ops < 9223372036854775807) (c1 : Nat) (hbad : c1 ≠ 0 ∨ d1.goes = false) (dE : Dsk) (cE : Nat) (hE : (c1 = 0 → dE = d1.sync.1 ∧ cE = 9) ∧ (c1 ≠ 0 → dE = d1 ∧ cE = c1))
    (hWr : ∀ W, Kept Nob w W → Calls Tryz.prog 42 #[.pointer (some ⟨b, 0, none⟩), .int .i64 xk] W (RetDsk W bd d1 F c1)) :
    Calls Tryz.prog 35 #[.pointer (some ⟨b, 0, none⟩)] w (RetEvBad w bd F dE cE) := by
  have HBad := Lib.hid hbad
  have HE := Lib.hid hE
  clear hbad hE
  have hbw := h.lt
  have hmw : mb < w.heap.size := h.map.lt
  have HUS := Lib.hid h.under
  have HBm := Lib.hid h.bm
  have HWr := Lib.hid hWr
  have HUF := Lib.hid hUF
  have HFS := Lib.hid hFS
  have HDy := Lib.hid hdy
  clear hWr hUF hFS hdy
  have c2 : w.cell? ⟨b, 2, none⟩ = some (.int .i64 P.room) := cell_at h.head 2 _ rfl
  have c5 : w.cell? ⟨b, 5, none⟩ = some (.map (some mb)) := cell_at h.head 5 _ rfl
  have hln := fun n => (h.nob (Kept.drewN Nob w n)).len 3
  have ht : ¬ (P.all.length : Int) < (P.room : Int) := by omega
  have HP := Lib.hid h
  have HH := Lib.hid (fun n => pool_held (w.drewN n) b bd mb P S (h.nob (Kept.drewN Nob w n)) (by omega))
  have HKy := Lib.hid hk
  have HU := Lib.hid hu
  have HCl := Lib.hid hcl
  clear h hk hu hcl
  go_enter Tryz.func35, Tryz.ntmps35
  go_wp2_with fail
  go_quiet (fail)
  clear hln
  go_wp2_with fail
  refine (HH.out nq).mono ?_
  rintro e w2 ⟨a2, k2, rfl, ho2, hk2⟩
  have HO2 := Lib.hid ho2.reads
  have HK2 := Lib.hid ((Kept.drewN Nob w nq).trans' hk2)
  clear ho2 hk2 HH c2 c5
  go_wp2_with fail
  have HR0 : Hid (Kept Nob w2 w2) := Kept.refl _ _
  go_loopw [3, 21] (fun bv i wr => ∃ j : Nat, j ≤ P.all.length ∧ i = .int .i64 j ∧ bv = .int .i64 (keyOr (bestOf P (P.all.take j))) ∧ Kept Nob w2 wr) (fun _ i _ => P.all.length - (intOf i).toNat)
  case atStart => exact ⟨0, Nat.zero_le _, rfl, rfl, HR0.out⟩
  case round =>
    clear HR0
    obtain ⟨j, hj, rfl, rfl, hkw⟩ := hrel
    have HK := Lib.hid hkw
    have hPr := HP.out.nob (HK2.out.then hkw)
    have c5 : wr.cell? ⟨b, 5, none⟩ = some (.map (some mb)) := cell_at hPr.head 5 _ rfl
    have HPr := Lib.hid hPr
    clear hPr hkw
    by_cases hlt : j < P.all.length
    · have hmem := List.getElem_mem hlt
      have hbt := bestOf_take P P.all j hlt
      obtain ⟨gb, go, xv, rfl, hx, hc, -⟩ := (HO2.out.kept HK.out (fun _ _ f => f)).cell (i := j) (by simpa [Pl.keys] using hlt)
      obtain rfl : xv = .int .i64 P.all[j].1 := by
        rw [Pl.keys, List.getElem?_map, List.getElem?_eq_getElem hlt] at hx
        exact (Option.some.inj hx).symm
      clear hx
      have HBt := Lib.hid hbt
      obtain ⟨key, x, he⟩ : ∃ key x, P.all[j] = (key, x) := ⟨_, _, rfl⟩
      rw [he] at hmem HBt hc
      clear hbt he
      have hlk := HPr.out.look HKy.out hmem
      have hb := (HPr.out.held _ hmem).2
      have d4 : wr.cell? ⟨x.g, 4, none⟩ = some (.int .i64 x.used) := cell_at hb 4 _ rfl
      have HMy := Lib.hid (fun n => pool_may (wr.drewN n) b bd mb P S (HPr.out.nob (Kept.drewN Nob wr n)) key x hmem)
      clear hb
      go_upto_region 8 with fail
      cases hm : P.may x
      · rw [hm] at HMy
        have HB2 : Hid (Value.int .i64 (keyOr (bestOf P (P.all.take j))) = .int .i64 (keyOr (bestOf P (P.all.take (j + 1))))) := by
          refine Lib.hid ?_
          rw [HBt.out, better_no hm]
        clear hm
        generalize keyOr (bestOf P (P.all.take j)) = q at *
        go_quiet ((go_at_call 63; exact Calls.quiet_of (HMy.out _)))
        go_wp2_with fail
        have HN := Lib.hid (HK.out.then (Kept.drewN Nob wr nq))
        go_roundw
        case rel => exact ⟨j + 1, by omega, by go_num, HB2.out, HN.out⟩
        case measure => simp [intOf]; omega
      · rw [hm] at HMy
        cases hacc : bestOf P (P.all.take j) with
        | none =>
          have HB2 : Hid (Value.int .i64 key = .int .i64 (keyOr (bestOf P (P.all.take (j + 1))))) := by
            refine Lib.hid ?_
            rw [HBt.out, hacc, better_none hm]; rfl
          rw [show keyOr none = -1 from rfl]
          clear hm hacc
          go_quiet ((go_at_call 63; exact Calls.quiet_of (HMy.out _)))
          go_wp2_with fail
          have HN := Lib.hid (HK.out.then (Kept.drewN Nob wr nq))
          go_roundw
          case rel => exact ⟨j + 1, by omega, by go_num, HB2.out, HN.out⟩
          case measure => simp [intOf]; omega
        | some y =>
          obtain ⟨yk, y⟩ := y
          have hym : (yk, y) ∈ P.all := List.mem_of_mem_take (bestOf_mem P _ _ hacc).1
          have hly := fun n => (HPr.out.nob (Kept.drewN Nob wr n)).look HKy.out hym
          have hyb := (HPr.out.held _ hym).2
          have e4 : wr.cell? ⟨y.g, 4, none⟩ = some (.int .i64 y.used) := cell_at hyb 4 _ rfl
          have hy0 := (HKy.out _ hym).1
          have hn0 : decide (yk < 0) = false := by simpa using hy0
          rw [show keyOr (some (yk, y)) = yk from rfl]
          clear hyb hy0 hym
          by_cases hus : x.used < y.used
          · have HB2 : Hid (Value.int .i64 key = .int .i64 (keyOr (bestOf P (P.all.take (j + 1))))) := by
              refine Lib.hid ?_
              rw [HBt.out, hacc, better_some hm, if_pos hus]; rfl
            have hus' : decide ((x.used : Int) < (y.used : Int)) = true := by simpa using hus
            clear hm hacc
            go_quiet ((go_at_call 63; exact Calls.quiet_of (HMy.out _)))
            go_wp2_with fail
            have HN := Lib.hid (HK.out.then (Kept.drewN Nob wr nq))
            go_roundw
            case rel => exact ⟨j + 1, by omega, by go_num, HB2.out, HN.out⟩
            case measure => simp [intOf]; omega
          · have HB2 : Hid (Value.int .i64 yk = .int .i64 (keyOr (bestOf P (P.all.take (j + 1))))) := by
              refine Lib.hid ?_
              rw [HBt.out, hacc, better_some hm, if_neg hus]; rfl
            have hus' : decide ((x.used : Int) < (y.used : Int)) = false := by simpa using hus
            clear hm hacc
            go_quiet ((go_at_call 63; exact Calls.quiet_of (HMy.out _)))
            go_wp2_with fail
            have HN := Lib.hid (HK.out.then (Kept.drewN Nob wr nq))
            go_roundw
            case rel => exact ⟨j + 1, by omega, by go_num, HB2.out, HN.out⟩
            case measure => simp [intOf]; omega
    · have hjl : j = P.all.length := by omega
      subst hjl
      rw [List.take_of_length_le (Nat.le_refl _)]
      cases hb : bestOf P P.all with
      | none => rw [HCl.out] at hb; cases hb
      | some x' =>
        rw [HCl.out] at hb
        obtain rfl : (xk, x) = x' := Option.some.inj hb
        have hxm := (bestOf_mem P _ _ HCl.out).1
        have hxk := HKy.out _ hxm
        have hlk := HPr.out.look HKy.out hxm
        have d2 : wr.cell? ⟨x.g, 2, none⟩ = some (.bool x.dirty) := cell_at (HPr.out.held _ hxm).2 2 _ rfl
        rw [HDy.out] at d2
        have hn0 : ¬ xk < 0 := by have := hxk.1; simpa using this
        have HXk := Lib.hid hxk
        rw [show keyOr (some (xk, x)) = xk from rfl]
        have HKw := Lib.hid (HK2.out.then HK.out)
        have hbr : b < wr.heap.size := HPr.out.lt
        have hmr : mb < wr.heap.size := HPr.out.map.lt
        have HWw := Lib.hid (HWr.out wr HKw.out)
        clear hxk hb HWr
        go_wp2_with fail
        refine HWw.out.mono ?_
        rintro e w3 ⟨v, rfl, hmi, ⟨F3, hd3, hg3⟩, hk3⟩
        have s1 := HKw.out.size
        have s2 := hk3.size
        rcases hmi with ⟨hc0, rfl⟩ | ⟨h1, h2, hin⟩
        · have hc0 : c1 = 0 := by omega
          have hgf : d1.goes = false := HBad.out.resolve_left (fun h => h hc0)
          have HSy := Lib.hid ((disk_sync_any w3 bd d1 F3 hd3 hops).mono fun e w' h => h.pos (show d1.sync.2 ≠ 0 by simp [Dsk.sync, hgf]))
          have h9 : d1.sync.2 = 9 := by simp [Dsk.sync, hgf]
          have HP3 := Lib.hid (HPr.out.kept hk3 hFb hFm (fun q hq f => HFS.out q f hq))
          have c03 : w3.cell? ⟨b, 0, none⟩ = some (.pointer (some ⟨bd, 0, none⟩)) := cell_at HP3.out.head 0 _ rfl
          have HG3 := Lib.hid hg3
          have HK3 := Lib.hid hk3
          have HC := Lib.hid (And.intro hc0 h9)
          clear hd3 hg3 hk3 hc0 hgf h9
          go_wp2_with fail
          refine HSy.out.mono ?_
          rintro e w4 ⟨g, rfl, h1, h2, hin, ⟨F4, hd4, hg4⟩, hk4⟩
          have HIn := Lib.hid hin
          have HD4 := Lib.hid hd4
          have HG4 := Lib.hid hg4
          have HK4 := Lib.hid hk4
          clear hin hd4 hg4 hk4 h1 h2
          go_wp2_with fail
          go_ret
          rw [(HE.out.1 HC.out.1).1, (HE.out.1 HC.out.1).2]
          have hin := HIn.out
          rw [HC.out.2] at hin
          refine ⟨_, rfl, hin.mono fun q _ hq => by have hq : w3.heap.size ≤ q := hq; show _ ≤ _; omega, ⟨F4, HD4.out, fun q f => ?_⟩, HKw.out.nob.trans (HK3.out.trans HK4.out fun q hq f => (HG3.out q f).elim id fun e => absurd e (by omega)) fun q _ f => f⟩
          rcases HG4.out q f with e | e
          · rcases HG3.out q e with e | e
            · exact .inl e
            · exact .inr (by omega)
          · exact .inr (by omega)
        · have hc0 : ¬ c1 = 0 := by omega
          have HD3 := Lib.hid hd3
          have HG3 := Lib.hid hg3
          have HK3 := Lib.hid hk3
          have HC := Lib.hid hc0
          have HIn := Lib.hid hin
          clear hd3 hg3 hk3 hc0 h1 h2
          rcases hin with rfl | ⟨op, id, g, rfl, -⟩
          all_goals
            go_wp2_with fail
            go_ret
            rw [(HE.out.2 HC.out).1, (HE.out.2 HC.out).2]
            exact ⟨_, rfl, HIn.out.mono fun q _ hq => by have hq : wr.heap.size ≤ q := hq; show _ ≤ _; omega, ⟨F3, HD3.out, fun q f => (HG3.out q f).imp (fun e => e) fun e => by omega⟩, HKw.out.nob.trans' HK3.out⟩
def RetReadBad (w : World) (b bd mb : Nat) (P : Pl) (S : Nat → Prop) (e : Ending) (w' : World) : Prop :=
  ∃ v, e = .returned (.tuple #[.pointer none, v]) ∧ InnerAt w' v 10 (From w.heap.size) ∧ PoolAt w' b bd mb { P with reads := P.reads + 1 } S ∧ Kept (Just b) w w'
set_option maxRecDepth 100000 in
set_option maxHeartbeats 2000000 in
theorem pool_read_bad (w : World) (b bd mb : Nat) (P : Pl) (S : Nat → Prop) (h : PoolAt w b bd mb P S) (d : Dsk) (F : Nat → Prop) (hD : DiskAt w bd d F) (k : Nat) (hk : 8 * k + 8 ≤ d.good.length) (ys : List Int) (hz : Wal.flat d.now (8 * k) 8 = ys.map (Value.int .u8)) (hln : ys.length = 512) (hib : InB ys) (hnz : ∃ r ∈ ys, r ≠ 0) (hbp : ∀ p, parseOf ys = some p → p.id ≠ (k : Int)) (hr : P.reads ≤ 1000000000000) :
    Calls Tryz.prog 36 #[.pointer (some ⟨b, 0, none⟩), .int .i64 k] w (RetReadBad w b bd mb P S) := by
  have hm := hD.wf.most
  have HP := Lib.hid h
  have HD := Lib.hid hD
  have HZ := Lib.hid hz
  have hnn : Hid (decide (0 ≤ nzAt ys 0) = true) := Lib.hid (by obtain ⟨r, hr1, hr2⟩ := hnz; exact decide_eq_true (nzAt_some _ _ r hr1 hr2))
  have HLn := Lib.hid hln
  have HIb := Lib.hid hib
  have HBp := Lib.hid hbp
  clear hnz hln hib hbp
  have hkb : k ≤ 2000 := by omega
  have HR0 : Hid (PReadRel w d.now (8 * k) 0 (.slice none 0 0) w) := ⟨none, 0, rfl, Own.nil _ _ _, Kept.refl _ _⟩
  clear h hD hz
  go_enter Tryz.func36, Tryz.ntmps36
  go_wp2
  go_loopw [6, 12] (fun o i wr => ∃ j : Nat, j ≤ 8 ∧ i = .int .i64 j ∧ PReadRel w d.now (8 * k) j o wr) (fun _ i _ => 8 - (intOf i).toNat)
  case atStart => exact ⟨0, by omega, rfl, HR0.out⟩
  case round =>
    clear HR0
    obtain ⟨j, hj, rfl, ob, oc, rfl, ho, hkw⟩ := hrel
    have HO := Lib.hid ho
    have HK := Lib.hid hkw
    have hPr := HP.out.nob hkw
    have c0 : wr.cell? ⟨b, 0, none⟩ = some (.pointer (some ⟨bd, 0, none⟩)) := cell_at hPr.head 0 _ rfl
    have c7 : wr.cell? ⟨b, 7, none⟩ = some (.int .i64 P.reads) := cell_at hPr.head 7 _ rfl
    have f7 : wr.frozen? ⟨b, 7, none⟩ = false := frozen_at hPr.head 7
    have HPr := Lib.hid hPr
    clear ho hkw hPr
    by_cases hlt : j < 8
    · have hX := Dsk.Sectors.getD HD.out.wf.now (i := 8 * k + j) (by rw [HD.out.wf.len]; omega)
      have HRd := Lib.hid (show Calls Tryz.prog 64 #[.pointer (some ⟨bd, 0, none⟩), .int .i64 ((k : Int) * 8 + (j : Int))] wr (RetRead wr (d.now.getD (8 * k + j) [])) from by
        have := disk_read wr bd d F (HD.out.kept HK.out (fun _ _ f => f)) (8 * k + j) (by omega)
        rw [show ((8 * k + j : Nat) : Int) = (k : Int) * 8 + (j : Int) from by omega] at this
        exact this)
      have HX := Lib.hid hX
      clear hX c7 f7
      go_wp2_with fail
      refine HRd.out.mono ?_
      rintro e w2 ⟨b2, c2, rfl, ho2, hk2⟩
      rw [HX.out.1] at ho2 ⊢
      have HO1 := Lib.hid (HO.out.kept hk2 (fun _ _ f => f))
      have HO2 := Lib.hid ho2
      have HK2 := Lib.hid (HK.out.then hk2)
      have hfl : (Wal.flat d.now (8 * k) j).length = 64 * j := Wal.flat_length HD.out.wf.now j (by rw [HD.out.wf.len]; omega)
      have HFl := Lib.hid hfl
      clear ho2 hk2 HRd hfl c0
      go_wp2_with (at_builtin; refine wpList_append_pg rfl _ _ 50 rfl tBytes (.slice ob (64 * j) oc) (.slice b2 64 c2) (Wal.flat d.now (8 * k) j) (d.now.getD (8 * k + j) []) _ _ rfl rfl HO1.out HO2.out.reads (fun u hu => (HX.out.2 u hu).one) (by rw [HX.out.1, HFl.out]; omega) ?_; intro b4 c4 w4 ho4 hk4 _; rw [HX.out.1, HFl.out] at ho4 ⊢; have HO4 := Lib.hid ho4; have HK4 := Lib.hid hk4; clear ho4 hk4)
      have HN : Hid (PReadRel w d.now (8 * k) (j + 1) (.slice b4 (64 * j + 64) c4) w4) := by
        refine Lib.hid ⟨b4, c4, by rw [Nat.mul_succ], ?_, HK2.out.from (Nat.le_refl _) (HK4.out.mono fun x _ hx => HO.out.2 x hx)⟩
        have := HO4.out.mono (G := From w.heap.size) (fun x _ hx => by
          rcases hx with hx | hx
          · exact HO.out.2 x hx
          · have := HK2.out.size; show _ ≤ _; omega)
        rw [Wal.flat]
        exact this
      go_roundw
      case rel => exact ⟨j + 1, by omega, by go_num, HN.out⟩
      case measure => simp [intOf]; omega
    · have hj8 : j = 8 := by omega
      subst hj8
      have hxs := HO.out.reads
      rw [HZ.out] at hxs
      have hbel := HPr.out.lt
      have HXs := Lib.hid fun (W : World) (q : Kept (Just b) wr W) => hxs.kept q (fun x hx hj => by have hx : w.heap.size ≤ x := hx; have hj : x = b := hj; have := HP.out.lt; omega)
      have hC := fun W (q : Kept (Just b) wr W) => pcontains_nz W _ ys _ (HXs.out W q) (by rw [HLn.out]; omega)
      rw [hnn.out] at hC
      have HC := Lib.hid hC
      clear hxs hC hlt hj
      cases hpo : parseOf ys with
      | none =>
        have HPa := Lib.hid fun (W : World) (q : Kept (Just b) wr W) => slots_Parse_no W _ ys _ (HXs.out W q) HLn.out HIb.out hpo
        clear hpo
        go_wp2_with (first
          | (go_at_call 65; (with_reducible refine (HC.out _ (kept1 wr b 7 _)).mono ?_); rintro e w' ⟨rfl, rfl⟩)
          | (go_at_call 68; (with_reducible refine (HPa.out _ (kept1 wr b 7 _)).mono ?_); rintro e w6 ⟨g, rfl, hf6, hk6⟩; have HF6 := Lib.hid hf6; have HK6 := Lib.hid hk6; clear hf6 hk6))
        go_ret2
        have k7 := kept1 wr b 7 (.int .i64 ((P.reads : Int) + 1))
        have kw : Kept (Just b) w (wr.setCell ⟨b, 7, none⟩ (.int .i64 ((P.reads : Int) + 1))) := HK.out.nob.trans' k7
        have hnew := HPr.out.turn (P' := { P with reads := P.reads + 1 }) k7 rfl (heap_set wr b 7 _ _ (.int .i64 ((P.reads : Int) + 1)) HPr.out.head)
        exact ⟨_, rfl, .inr ⟨_, _, HF6.out.mono fun x _ hx => Nat.le_trans kw.size hx⟩, hnew.nob HK6.out, kw.then HK6.out⟩
      | some p =>
        have hne := HBp.out p hpo
        have heq : (p.id == (k : Int)) = false := by simpa using hne
        have HPa := Lib.hid fun (W : World) (q : Kept (Just b) wr W) => slots_Parse W _ ys _ (HXs.out W q) HLn.out HIb.out p hpo
        clear hpo hne
        go_wp2_with (first
          | (go_at_call 65; (with_reducible refine (HC.out _ (kept1 wr b 7 _)).mono ?_); rintro e w' ⟨rfl, rfl⟩)
          | (go_at_call 68; (with_reducible refine (HPa.out _ (kept1 wr b 7 _)).mono ?_); rintro e w6 ⟨pg, rfl, hpg6, hp6, hk6⟩; have HPg := Lib.hid hpg6; have HPa6 := Lib.hid hp6; have HK6 := Lib.hid hk6; have HIt := Lib.hid fun (W : World) (q : Kept Nob w6 W) => page_id W pg p.kind p.id _ ((q.block pg hp6.lt (fun f => f)).trans hp6.choose_spec.1); clear hpg6 hp6 hk6)
          | (go_at_call 30; (with_reducible refine (HIt.out _ (Kept.refl _ _)).mono ?_); rintro e w7 ⟨rfl, rfl⟩))
        go_ret2
        have k7 := kept1 wr b 7 (.int .i64 ((P.reads : Int) + 1))
        have kw : Kept (Just b) w (wr.setCell ⟨b, 7, none⟩ (.int .i64 ((P.reads : Int) + 1))) := HK.out.nob.trans' k7
        have hnew := HPr.out.turn (P' := { P with reads := P.reads + 1 }) k7 rfl (heap_set wr b 7 _ _ (.int .i64 ((P.reads : Int) + 1)) HPr.out.head)
        exact ⟨_, rfl, .inl rfl, hnew.nob HK6.out, kw.then HK6.out⟩
def RetPinBad (w : World) (k c : Int) (Z : World → Prop) (e : Ending) (w' : World) : Prop :=
  ∃ v w1, e = .returned (.tuple #[.pointer none, v]) ∧ OuterAt w' v opPool k c (From w.heap.size) ∧ Z w1 ∧ Kept Nob w1 w'
set_option maxRecDepth 100000 in
theorem pool_pin_evbad (w : World) (b bd mb : Nat) (P : Pl) (S : Nat → Prop) (h : PoolAt w b bd mb P S) (k : Nat) (hno : find P.map k = none) (hkp : k < P.pages) (hpp : P.pages ≤ 100000) (c : Int) (Z : World → Prop)
    (HE : Hid (Calls Tryz.prog 35 #[.pointer (some ⟨b, 0, none⟩)] w fun e w1 => ∃ v, e = .returned v ∧ InnerAt w1 v c (From w.heap.size) ∧ w.heap.size ≤ w1.heap.size ∧ Z w1)) :
    Calls Tryz.prog 12 #[.pointer (some ⟨b, 0, none⟩), .int .i64 k] w (RetPinBad w k c Z) := by
  have HG := Lib.hid (pool_gone w b bd mb P S h)
  have c1 : w.cell? ⟨b, 1, none⟩ = some (.int .i64 P.pages) := cell_at h.head 1 _ rfl
  have c5 : w.cell? ⟨b, 5, none⟩ = some (.map (some mb)) := cell_at h.head 5 _ rfl
  have hlk := h.look_ok (k : Int) (by omega) (by omega)
  rw [hno] at hlk
  simp only [ptrOf, Option.isSome] at hlk
  have t0 : ¬ (k : Int) < 0 := by omega
  have t1 : ¬ (P.pages : Int) ≤ (k : Int) := by omega
  clear h hno
  go_enter Tryz.func12, Tryz.ntmps12
  go_wp2_with (go_at_call 34; refine HG.out.mono ?_; rintro e w' ⟨rfl, rfl⟩)
  refine HE.out.mono ?_
  rintro e w2 ⟨v, rfl, hin, hsz, hz⟩
  have HC := Lib.hid (fault_new_in w2 opPool k v c _ hin)
  unfold opPool at HC
  have HZ := Lib.hid hz
  have HSz := Lib.hid hsz
  clear hz c1 c5 hlk t0 t1 hsz
  rcases hin with rfl | ⟨op, id, g, rfl, -⟩
  all_goals
    go_wp2_with (go_at_call 31; (with_reducible refine HC.out.mono ?_); rintro e w3 ⟨u, rfl, ho1, hk1⟩; have HO1 := Lib.hid ho1; have HK1 := Lib.hid hk1; clear ho1 hk1)
    go_ret2
    exact ⟨_, w2, rfl, HO1.out.mono (fun x _ hx => hx.elim (fun e => e) (fun e => Nat.le_trans HSz.out e)), HZ.out, HK1.out⟩
set_option maxRecDepth 100000 in
theorem pool_pin_rdbad (w : World) (b bd mb : Nat) (P : Pl) (S : Nat → Prop) (h : PoolAt w b bd mb P S) (k : Nat) (hno : find P.map k = none) (hkp : k < P.pages) (hpp : P.pages ≤ 100000) (c : Int) (Z : World → Prop)
    (HE : Hid (Calls Tryz.prog 35 #[.pointer (some ⟨b, 0, none⟩)] w fun e w1 => e = .returned .nilIface ∧
      Calls Tryz.prog 36 #[.pointer (some ⟨b, 0, none⟩), .int .i64 k] w1 fun e w2 => ∃ v, e = .returned (.tuple #[.pointer none, v]) ∧ InnerAt w2 v c (From w.heap.size) ∧ w.heap.size ≤ w2.heap.size ∧ Z w2)) :
    Calls Tryz.prog 12 #[.pointer (some ⟨b, 0, none⟩), .int .i64 k] w (RetPinBad w k c Z) := by
  have HG := Lib.hid (pool_gone w b bd mb P S h)
  have c1 : w.cell? ⟨b, 1, none⟩ = some (.int .i64 P.pages) := cell_at h.head 1 _ rfl
  have c5 : w.cell? ⟨b, 5, none⟩ = some (.map (some mb)) := cell_at h.head 5 _ rfl
  have hlk := h.look_ok (k : Int) (by omega) (by omega)
  rw [hno] at hlk
  simp only [ptrOf, Option.isSome] at hlk
  have t0 : ¬ (k : Int) < 0 := by omega
  have t1 : ¬ (P.pages : Int) ≤ (k : Int) := by omega
  clear h hno
  go_enter Tryz.func12, Tryz.ntmps12
  go_wp2_with (first
    | (go_at_call 34; refine HG.out.mono ?_; rintro e w' ⟨rfl, rfl⟩)
    | (go_at_call 35; refine HE.out.mono ?_; rintro e w1 ⟨rfl, hrd⟩; have HRd := Lib.hid hrd; clear hrd))
  refine HRd.out.mono ?_
  rintro e w2 ⟨v, rfl, hin, hsz, hz⟩
  have HC := Lib.hid (fault_new_in w2 opPool k v c _ hin)
  unfold opPool at HC
  have HZ := Lib.hid hz
  have HSz := Lib.hid hsz
  clear hz c1 c5 hlk t0 t1 hsz
  rcases hin with rfl | ⟨op, id, g, rfl, -⟩
  all_goals
    go_wp2_with (go_at_call 31; (with_reducible refine HC.out.mono ?_); rintro e w3 ⟨u, rfl, ho1, hk1⟩; have HO1 := Lib.hid ho1; have HK1 := Lib.hid hk1; clear ho1 hk1)
    go_ret2
    exact ⟨_, w2, rfl, HO1.out.mono (fun x _ hx => hx.elim (fun e => e) (fun e => Nat.le_trans HSz.out e)), HZ.out, HK1.out⟩
theorem filter_less {l : List (Int × Hd)} {x : Int × Hd} (hx : x ∈ l) : (l.filter fun p => !(p.1 == x.1)).length < l.length := by
  rcases Nat.lt_or_ge (l.filter fun p => !(p.1 == x.1)).length l.length with h | h
  · exact h
  · have h2 := List.length_filter_eq_length_iff.1 (Nat.le_antisymm (List.length_filter_le _ _) h) x hx
    simp at h2
theorem LiveAt.away {w0 w w' : World} {bd b mb : Nat} {d : Dsk} {F S K R G : Nat → Prop} {P : Pl} {con : Nat → PgM} (L : LiveAt w0 w bd b mb d F P S K R con) (hk : Kept G w w')
    (hG : ∀ x, G x → (¬ F x ∧ x ≠ b ∧ x ≠ mb ∧ ¬ S x ∧ ¬ K x ∧ ¬ R x) ∧ w0.heap.size ≤ x) : LiveAt w0 w' bd b mb d F P S K R con := by
  have hs := hk.size
  refine ⟨L.pool.kept hk (fun e => (hG _ e).1.2.1 rfl) (fun e => (hG _ e).1.2.2.1 rfl) (fun x hx e => (hG x e).1.2.2.2.1 hx), L.disk.kept hk (fun x hx e => (hG x e).1.1 hx), L.fit, L.keyed, L.used, L.len, L.room,
    fun x hx => ⟨(L.page x hx).1.kept hk (fun e => (hG x e).1.2.2.2.2.1 hx) (fun y hy e => (hG y e).1.2.2.2.2.2 hy), (L.page x hx).2⟩, L.held, fun x hx => ?_, L.Fb, L.Fm, L.FS, L.new, L.kept.trans hk fun x hx e => by have := (hG x e).2; omega⟩
  obtain ⟨f1, f2, f3, f4, f5, f6⟩ := L.far x hx
  exact ⟨f1, f2, f3, f4, f5, by omega⟩
theorem Live.away {w0 w w' : World} {bd b mb : Nat} {d : Dsk} {P : Pl} {K Z G : Nat → Prop} {con : Nat → PgM} (h : Live w0 w bd b mb d P K con Z) (hk : Kept G w w') (hG : ∀ x, G x → ¬ Z x ∧ w0.heap.size ≤ x) : Live w0 w' bd b mb d P K con Z := by
  obtain ⟨F, S, R, L, hZ⟩ := h
  refine ⟨F, S, R, L.away hk fun x hx => ?_, hZ⟩
  obtain ⟨h1, h2⟩ := hG x hx
  exact ⟨⟨fun e => h1 (hZ x (.inl e)), fun e => h1 (hZ x (.inr (.inl e))), fun e => h1 (hZ x (.inr (.inr (.inl e)))), fun e => h1 (hZ x (.inr (.inr (.inr (.inl e))))), fun e => h1 (hZ x (.inr (.inr (.inr (.inr (.inl e)))))), fun e => h1 (hZ x (.inr (.inr (.inr (.inr (.inr e))))))⟩, h2⟩
def Pl.ripe (P : Pl) : List (Int × Hd) := (P.all.filter fun p => p.2.dirty).filter fun p => decide (p.2.lsn ≤ P.mark)
theorem Pl.ripe_mem {P : Pl} {p : Int × Hd} : p ∈ P.ripe ↔ p ∈ P.all ∧ p.2.dirty = true ∧ p.2.lsn ≤ P.mark := by
  simp only [Pl.ripe, List.mem_filter, decide_eq_true_eq, and_assoc]
theorem Pl.ripe_len (P : Pl) : P.ripe.length ≤ P.all.length := Nat.le_trans (List.length_filter_le _ _) (List.length_filter_le _ _)
def Pl.cleanStep (P : Pl) (x : Int × Hd) : Pl := { P.set x.1 { x.2 with dirty := false } with wrote := P.wrote + 1 }
def Pl.cleaned (l : List (Int × Hd)) (P : Pl) : Pl := l.foldl Pl.cleanStep P
def Pl.flushP (P : Pl) : Pl := Pl.cleaned P.ripe P
theorem Pl.cleaned_succ (l : List (Int × Hd)) (P : Pl) (j : Nat) (h : j < l.length) : Pl.cleaned (l.take (j + 1)) P = Pl.cleanStep (Pl.cleaned (l.take j) P) l[j] := by
  unfold Pl.cleaned
  rw [List.take_succ_eq_append_getElem h, List.foldl_append]; rfl
theorem Pl.cleaned_keeps : ∀ (l : List (Int × Hd)) (P : Pl), (Pl.cleaned l P).pages = P.pages ∧ (Pl.cleaned l P).room = P.room ∧ (Pl.cleaned l P).mark = P.mark ∧ (Pl.cleaned l P).clock = P.clock ∧ (Pl.cleaned l P).hits = P.hits ∧ (Pl.cleaned l P).reads = P.reads ∧ (Pl.cleaned l P).wrote = P.wrote + l.length ∧ (Pl.cleaned l P).all.length = P.all.length := by
  intro l
  induction l with
  | nil => intro P; exact ⟨rfl, rfl, rfl, rfl, rfl, rfl, rfl, rfl⟩
  | cons x r ih =>
    intro P
    obtain ⟨h1, h2, h3, h4, h5, h6, h7, h8⟩ := ih (Pl.cleanStep P x)
    have : Pl.cleaned (x :: r) P = Pl.cleaned r (Pl.cleanStep P x) := rfl
    rw [this]
    refine ⟨h1, h2, h3, h4, h5, h6, ?_, ?_⟩
    · rw [h7, List.length_cons]; show P.wrote + 1 + _ = _; omega
    · rw [h8]; exact Pl.set_length P _ _
theorem Pl.mem_set_other {P : Pl} {k : Int} {x : Hd} {p : Int × Hd} (h : p ∈ P.all) (hk : p.1 ≠ k) : p ∈ (P.set k x).all := List.mem_map.2 ⟨p, h, if_neg hk⟩
theorem Pl.cleaned_other : ∀ (l : List (Int × Hd)) (P : Pl) (p : Int × Hd), p ∈ P.all → (∀ x ∈ l, p.1 ≠ x.1) → p ∈ (Pl.cleaned l P).all := by
  intro l
  induction l with
  | nil => intro P p h _; exact h
  | cons x r ih =>
    intro P p h hn
    exact ih _ p (Pl.mem_set_other h (hn x (by simp))) fun y hy => hn y (List.mem_cons_of_mem _ hy)
def keysOf (l : List (Int × Hd)) : List Value := l.map fun p => .int .i64 p.1
def RipeRel (w : World) (l : List (Int × Hd)) (v : Value) (wr : World) : Prop :=
  ∃ b c, v = .slice b l.length c ∧ Own wr 3 v (keysOf l) (From w.heap.size) ∧ Kept Nob w wr
def ripeOf (m : Int) (l : List (Int × Hd)) : List (Int × Hd) := l.filter fun p => decide (p.2.lsn ≤ m)
theorem ripeOf_take (m : Int) (l : List (Int × Hd)) (j : Nat) (h : j < l.length) : ripeOf m (l.take (j + 1)) = ripeOf m (l.take j) ++ if l[j].2.lsn ≤ m then [l[j]] else [] := by
  rw [List.take_succ_eq_append_getElem h, ripeOf, List.filter_append]
  unfold ripeOf
  congr 1
  by_cases hd : l[j].2.lsn ≤ m
  · simp [hd]
  · simp [hd]
def CleanRel (w0 w3 : World) (bd b mb : Nat) (d : Dsk) (F : Nat → Prop) (P : Pl) (S K R : Nat → Prop) (con : Nat → PgM) (j : Nat) (wr : World) : Prop :=
  LiveAt w0 wr bd b mb d F (Pl.cleaned (P.ripe.take j) P) S K R con ∧ Kept (PoolF b mb S) w3 wr
theorem PoolAt.apart {w : World} {b bd mb : Nat} {P : Pl} {S : Nat → Prop} (h : PoolAt w b bd mb P S) : P.ripe.Pairwise fun p q => p.1 ≠ q.1 := by
  have h1 : P.ripe.Pairwise fun p q => p.2.g ≠ q.2.g := (h.once.filter _).filter _
  refine h1.imp_of_mem fun {p q} hp hq hpq e => ?_
  obtain ⟨k, x⟩ := p
  obtain ⟨k', y⟩ := q
  simp only at e
  subst e
  exact hpq (by rw [h.one (Pl.ripe_mem.1 hp).1 (Pl.ripe_mem.1 hq).1])
theorem LiveAt.cleanStep {w0 w : World} {bd b mb : Nat} {d : Dsk} {F S K R : Nat → Prop} {P : Pl} {con : Nat → PgM} (L : LiveAt w0 w bd b mb d F P S K R con) (p : Int × Hd) (hx : p ∈ P.all) :
    LiveAt w0 ((w.setCell ⟨p.2.g, 2, none⟩ (.bool false)).setCell ⟨b, 8, none⟩ (.int .i64 ((P.wrote : Int) + 1))) bd b mb d F (P.cleanStep p) S K R con ∧ Kept (PoolF b mb S) w ((w.setCell ⟨p.2.g, 2, none⟩ (.bool false)).setCell ⟨b, 8, none⟩ (.int .i64 ((P.wrote : Int) + 1))) := by
  obtain ⟨k, x⟩ := p
  have k1 := kept1 w x.g 2 (.bool false)
  have k2 := kept1 (w.setCell ⟨x.g, 2, none⟩ (.bool false)) b 8 (.int .i64 ((P.wrote : Int) + 1))
  have hS := (L.pool.held _ hx).1
  have h1 := L.pool.inner hx { x with dirty := false } rfl k1 (heap_set w x.g 2 _ _ _ (L.pool.held _ hx).2)
  have h2 := h1.turn (P' := P.cleanStep (k, x)) k2 rfl (heap_set _ b 8 _ _ (.int .i64 ((P.wrote : Int) + 1)) h1.head)
  have kk : Kept (PoolF b mb S) w ((w.setCell ⟨x.g, 2, none⟩ (.bool false)).setCell ⟨b, 8, none⟩ (.int .i64 ((P.wrote : Int) + 1))) := (k1.mono fun y _ q => .inr (.inr (by rw [show y = x.g from q]; exact hS))).trans' (k2.mono fun y _ q => .inl q)
  refine ⟨L.turn h2 kk (fun _ _ h => h) rfl rfl (fun p hp => ?_) (fun p hp => ?_) ?_ (fun p hp => ?_), kk⟩
  · rcases Pl.mem_set hp with rfl | h
    · exact (L.keyed _ hx :)
    · exact L.keyed p h
  · rcases Pl.mem_set hp with rfl | h
    · exact (L.used _ hx :)
    · exact L.used p h
  · show (P.set _ _).all.length ≤ _
    rw [Pl.set_length]; exact L.len
  · rcases Pl.mem_set hp with rfl | h
    · exact (L.held _ hx :)
    · exact L.held p h
end Go.Proofs.YthppgchmamonnaaGreatDoor
