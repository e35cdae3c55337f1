/- The pool with its pages' contents: what holds between calls; how the calls turn it. -/
import Derived.Test.YthppgchmamonnaaGreatDoorPgPoolC
namespace Go.Proofs.YthppgchmamonnaaGreatDoor
open Go.RowKit

/-- what a page's sectors say -/
def OnDisk (d : Dsk) (k : Nat) (c : PgM) : Prop :=
  (c = ⟨0, k, []⟩ ∧ ∀ i, i < 8 → d.now.getD (8 * k + i) [] = Dsk.zeroSector) ∨ (c.ss ≠ [] ∧ Wal.flat d.now (8 * k) 8 = (bytesOf c).map (Value.int .u8))
/-- a page that may be in the pool -/
structure PgM.Fine (c : PgM) : Prop where
  good : c.Good
  bytes : ∀ b, some b ∈ c.ss → InB b
/-- A pool, its disk, its pages: K: the pages' blocks; R: the blocks behind them; con: what the page at a block says. -/
structure LiveAt (w0 w : World) (bd b mb : Nat) (d : Dsk) (F : Nat → Prop) (P : Pl) (S K R : Nat → Prop) (con : Nat → PgM) : Prop where
  pool : PoolAt w b bd mb P S
  disk : DiskAt w bd d F
  fit : 8 * P.pages ≤ d.good.length
  keyed : ∀ p ∈ P.all, 0 ≤ p.1 ∧ p.1 < (P.pages : Int)
  used : ∀ p ∈ P.all, p.2.used ≤ P.clock
  len : P.all.length ≤ P.room
  room : P.room ≤ 100
  page : ∀ x, K x → PageAt w x (con x) R ∧ (con x).Fine
  held : ∀ p ∈ P.all, K p.2.pg ∧ (con p.2.pg).id = p.1
  far : ∀ x, (K x ∨ R x) → ¬ F x ∧ x ≠ b ∧ x ≠ mb ∧ ¬ S x ∧ w0.heap.size ≤ x ∧ x < w.heap.size
  Fb : ¬ F b
  Fm : ¬ F mb
  FS : Disj F S
  new : ∀ x, (F x ∨ x = b ∨ x = mb ∨ S x) → w0.heap.size ≤ x
  kept : Kept Nob w0 w
section
variable {w0 w w' : World} {bd b mb : Nat} {d d' : Dsk} {F F' G : Nat → Prop} {P P' : Pl} {S S' K R : Nat → Prop} {con : Nat → PgM}
theorem LiveAt.pages (L : LiveAt w0 w bd b mb d F P S K R con) : P.pages ≤ 1024 := by
  have := L.disk.wf.most; have := L.fit; omega
theorem LiveAt.kd (L : LiveAt w0 w bd b mb d F P S K R con) : P.Keyed := fun p hp => by
  have h := L.keyed p hp
  have := L.pages
  exact ⟨h.1, by omega⟩
theorem LiveAt.next (L : LiveAt w0 w bd b mb d F P S K R con) (hp : PoolAt w' b bd mb P' S') (hd : DiskAt w' bd d' F') (hk : Kept G w w')
    (hF : Grows F w.heap.size F') (hS : Grows S w.heap.size S') (hFS : Disj F' S') (hG : ∀ x, x < w.heap.size → G x → F x ∨ x = b ∨ x = mb ∨ S x)
    (hl : d'.good.length = d.good.length) (h1 : P'.pages = P.pages) (h2 : P'.room = P.room)
    (h3 : ∀ p ∈ P'.all, 0 ≤ p.1 ∧ p.1 < (P.pages : Int)) (h5 : ∀ p ∈ P'.all, p.2.used ≤ P'.clock) (h6 : P'.all.length ≤ P.room) (h7 : ∀ p ∈ P'.all, K p.2.pg ∧ (con p.2.pg).id = p.1) :
    LiveAt w0 w' bd b mb d' F' P' S' K R con := by
  have hs := hk.size
  have hb := L.pool.lt
  have hm := L.pool.map.lt
  have hx : ∀ x, K x ∨ R x → ¬ G x := fun x hx hg => by
    obtain ⟨f1, f2, f3, f4, -, f6⟩ := L.far x hx
    rcases hG x f6 hg with e | e | e | e
    · exact f1 e
    · exact f2 e
    · exact f3 e
    · exact f4 e
  have h0 := L.kept.size
  refine ⟨hp, hd, by rw [h1, hl]; exact L.fit, by rw [h1]; exact h3, h5, by rw [h2]; exact h6, by rw [h2]; exact L.room, fun x hK => ⟨(L.page x hK).1.kept hk (hx x (.inl hK)) (fun y hy => hx y (.inr hy)), (L.page x hK).2⟩, h7, fun x hx => ?_, fun f => ?_, fun f => ?_, hFS, fun x hx => ?_, L.kept.trans hk fun x hx hg => ?_⟩
  · obtain ⟨f1, f2, f3, f4, f5, f6⟩ := L.far x hx
    refine ⟨fun f => ?_, f2, f3, fun f => ?_, f5, by omega⟩
    · rcases hF x f with e | e
      · exact f1 e
      · omega
    · rcases hS x f with e | e
      · exact f4 e
      · omega
  · rcases hF b f with e | e
    · exact L.Fb e
    · omega
  · rcases hF mb f with e | e
    · exact L.Fm e
    · omega
  · rcases hx with e | e | e | e
    · rcases hF x e with e | e
      · exact L.new x (.inl e)
      · omega
    · exact L.new x (.inr (.inl e))
    · exact L.new x (.inr (.inr (.inl e)))
    · rcases hS x e with e | e
      · exact L.new x (.inr (.inr (.inr e)))
      · omega
  · have := hG x (Nat.lt_of_lt_of_le hx h0) hg
    have := L.new x this
    omega
theorem LiveAt.nob (L : LiveAt w0 w bd b mb d F P S K R con) (hk : Kept Nob w w') : LiveAt w0 w' bd b mb d F P S K R con :=
  L.next (L.pool.nob hk) (L.disk.kept hk (fun _ _ f => f)) hk (Grows.refl _ _) (Grows.refl _ _) L.FS (fun _ _ f => f.elim) rfl rfl rfl L.keyed L.used L.len L.held
/-- where the disk stays, and nothing is made -/
theorem LiveAt.turn (L : LiveAt w0 w bd b mb d F P S K R con) (hp : PoolAt w' b bd mb P' S) (hk : Kept G w w') (hG : ∀ x, x < w.heap.size → G x → x = b ∨ x = mb ∨ S x) (h1 : P'.pages = P.pages) (h2 : P'.room = P.room)
    (h3 : ∀ p ∈ P'.all, 0 ≤ p.1 ∧ p.1 < (P.pages : Int)) (h5 : ∀ p ∈ P'.all, p.2.used ≤ P'.clock) (h6 : P'.all.length ≤ P.room) (h7 : ∀ p ∈ P'.all, K p.2.pg ∧ (con p.2.pg).id = p.1) :
    LiveAt w0 w' bd b mb d F P' S K R con :=
  L.next hp (L.disk.kept hk fun x hx hg => by
    rcases hG x (L.disk.under x hx) hg with e | e | e
    · exact L.Fb (e ▸ hx)
    · exact L.Fm (e ▸ hx)
    · exact L.FS x hx e) hk (Grows.refl _ _) (Grows.refl _ _) L.FS (fun x hx hg => .inr (hG x hx hg)) rfl h1 h2 h3 h5 h6 h7
/-- one page more in memory -/
theorem LiveAt.more (L : LiveAt w0 w bd b mb d F P S K R con) {pg : Nat} {c : PgM} {R2 : Nat → Prop} (hpg : PageAt w pg c R2) (hc : c.Fine)
    (hn : ∀ x, (x = pg ∨ R2 x) → ¬ F x ∧ x ≠ b ∧ x ≠ mb ∧ ¬ S x ∧ w0.heap.size ≤ x ∧ x < w.heap.size) (h1 : ¬ K pg) (h2 : ¬ R pg) (h3 : ∀ x, R2 x → ¬ K x) :
    LiveAt w0 w bd b mb d F P S (fun x => K x ∨ x = pg) (fun x => R x ∨ R2 x) (fun x => if x = pg then c else con x) := by
  have hcon : ∀ x, K x → (if x = pg then c else con x) = con x := fun x hx => if_neg fun (e : x = pg) => h1 (e ▸ hx)
  refine ⟨L.pool, L.disk, L.fit, L.keyed, L.used, L.len, L.room, fun x hx => ?_, fun p hp => ?_, fun x hx => ?_, L.Fb, L.Fm, L.FS, L.new, L.kept⟩
  · rcases hx with hx | rfl
    · rw [hcon x hx]
      exact ⟨(L.page x hx).1.mono (fun y _ hy => .inl hy) (fun e => e.elim (fun e => by obtain ⟨lv, -, -, q⟩ := (L.page x hx).1; exact q e) (fun e => h3 x e hx)), (L.page x hx).2⟩
    · rw [if_pos rfl]
      exact ⟨hpg.mono (fun y _ hy => .inr hy) (fun e => e.elim h2 (fun e => by obtain ⟨lv, -, -, q⟩ := hpg; exact q e)), hc⟩
  · have := L.held p hp
    exact ⟨.inl this.1, by rw [hcon _ this.1]; exact this.2⟩
  · rcases hx with (hx | hx) | (hx | hx)
    · exact L.far x (.inl hx)
    · exact hn x (.inl hx)
    · exact L.far x (.inr hx)
    · exact hn x (.inr hx)
end

/-- The same, what is of no use outside hidden; Z: all that the pool may touch. -/
def Live (w0 w : World) (bd b mb : Nat) (d : Dsk) (P : Pl) (K : Nat → Prop) (con : Nat → PgM) (Z : Nat → Prop) : Prop :=
  ∃ F S R, LiveAt w0 w bd b mb d F P S K R con ∧ ∀ x, (F x ∨ x = b ∨ x = mb ∨ S x ∨ K x ∨ R x) → Z x
theorem Live.nob {w0 w w' : World} {bd b mb : Nat} {d : Dsk} {P : Pl} {K Z : Nat → Prop} {con : Nat → PgM} (h : Live w0 w bd b mb d P K con Z) (hk : Kept Nob w w') : Live w0 w' bd b mb d P K con Z := by
  obtain ⟨F, S, R, L, hZ⟩ := h
  exact ⟨F, S, R, L.nob hk, hZ⟩
theorem Live.kept {w0 w : World} {bd b mb : Nat} {d : Dsk} {P : Pl} {K Z : Nat → Prop} {con : Nat → PgM} (h : Live w0 w bd b mb d P K con Z) : Kept Nob w0 w := by
  obtain ⟨F, S, R, L, hZ⟩ := h
  exact L.kept
/-- behind a call: the pool is so, what it may touch grew by what is new -/
def LiveTo (w0 w : World) (bd b mb : Nat) (Z : Nat → Prop) (d : Dsk) (P : Pl) (K : Nat → Prop) (con : Nat → PgM) (w' : World) : Prop :=
  ∃ Z', Live w0 w' bd b mb d P K con Z' ∧ Grows Z w.heap.size Z' ∧ Kept Z w w'

theorem Live.hit {w0 w : World} {bd b mb : Nat} {d : Dsk} {P : Pl} {K Z : Nat → Prop} {con : Nat → PgM} (h : Live w0 w bd b mb d P K con Z) (k : Nat) (x : Hd) (hx : ((k : Int), x) ∈ P.all)
    (hc : P.clock ≤ 1000000000000) (hh : P.hits ≤ 1000000000000) (hp : x.pins ≤ 1000000000000) :
    Calls Tryz.prog 12 #[.pointer (some ⟨b, 0, none⟩), .int .i64 k] w fun e w' =>
      e = .returned (.tuple #[.pointer (some ⟨x.pg, 0, none⟩), .nilIface]) ∧ LiveTo w0 w bd b mb Z d (P.hit k x) K con w' := by
  obtain ⟨F, S, R, L, hZ⟩ := h
  have hky := L.keyed _ hx
  have hpg := L.pages
  refine (pool_pin_hit w b bd mb P S L.pool k x hx (by simp at hky; omega) (by omega) hc hh hp).mono ?_
  rintro e w' ⟨rfl, hp, hk⟩
  refine ⟨rfl, Z, ⟨F, S, R, L.turn hp hk (fun _ _ h => h) rfl rfl (fun p hp => ?_) (fun p hp => ?_) ?_ (fun p hp => ?_), hZ⟩, Grows.refl _ _, hk.mono fun x _ q => hZ x (by rcases q with q | q | q; exact .inr (.inl q); exact .inr (.inr (.inl q)); exact .inr (.inr (.inr (.inl q))))⟩
  · rcases Pl.mem_set hp with rfl | h
    · exact hky
    · exact L.keyed p h
  · rcases Pl.mem_set hp with rfl | h
    · exact Nat.le_refl _
    · exact Nat.le_succ_of_le (L.used p h)
  · rw [Pl.hit, Pl.set_length]; exact L.len
  · rcases Pl.mem_set hp with rfl | h
    · exact (L.held _ hx :)
    · exact L.held p h
theorem Live.unpin {w0 w : World} {bd b mb : Nat} {d : Dsk} {P : Pl} {K Z : Nat → Prop} {con : Nat → PgM} (h : Live w0 w bd b mb d P K con Z) (k : Nat) (n : Int) (y : Bool) (x : Hd) (hx : ((k : Int), x) ∈ P.all) (h1 : 1 ≤ x.pins) (h2 : x.pins ≤ 1000000000000) :
    Calls Tryz.prog 14 #[.pointer (some ⟨b, 0, none⟩), .int .i64 k, .bool y, .int .i64 n] w fun e w' =>
      e = .returned .nilIface ∧ LiveTo w0 w bd b mb Z d (P.set k (x.less y n)) K con w' := by
  obtain ⟨F, S, R, L, hZ⟩ := h
  have hky := L.keyed _ hx
  have hpg := L.pages
  simp only at hky
  refine (pool_unpin w b bd mb P S L.pool k (by omega) (by omega) n y x hx h1 h2).mono ?_
  rintro e w' ⟨rfl, hp, hk⟩
  refine ⟨rfl, Z, ⟨F, S, R, L.turn hp hk (fun _ _ h => h) rfl rfl (fun p hp => ?_) (fun p hp => ?_) ?_ (fun p hp => ?_), hZ⟩, Grows.refl _ _, hk.mono fun x _ q => hZ x (by rcases q with q | q | q; exact .inr (.inl q); exact .inr (.inr (.inl q)); exact .inr (.inr (.inr (.inl q))))⟩
  · rcases Pl.mem_set hp with rfl | h
    · exact hky
    · exact L.keyed p h
  · rcases Pl.mem_set hp with rfl | h
    · exact (L.used _ hx :)
    · exact L.used p h
  · rw [Pl.set_length]; exact L.len
  · rcases Pl.mem_set hp with rfl | h
    · exact (L.held _ hx :)
    · exact L.held p h
theorem Live.log {w0 w : World} {bd b mb : Nat} {d : Dsk} {P : Pl} {K Z : Nat → Prop} {con : Nat → PgM} (h : Live w0 w bd b mb d P K con Z) (n : Int) :
    Calls Tryz.prog 22 #[.pointer (some ⟨b, 0, none⟩), .int .i64 n] w fun e w' => e = .returned (.tuple #[]) ∧ LiveTo w0 w bd b mb Z d { P with mark := max P.mark n } K con w' := by
  obtain ⟨F, S, R, L, hZ⟩ := h
  refine (pool_log w b bd mb P S L.pool n).mono ?_
  rintro e w' ⟨rfl, hp, hk⟩
  exact ⟨rfl, Z, ⟨F, S, R, L.turn hp hk (fun x _ h => .inl h) rfl rfl L.keyed L.used L.len L.held, hZ⟩, Grows.refl _ _, hk.mono fun x _ q => hZ x (.inr (.inl q))⟩
theorem Live.insert {w0 w : World} {bd b mb : Nat} {d : Dsk} {P : Pl} {K Z : Nat → Prop} {con : Nat → PgM} (h : Live w0 w bd b mb d P K con Z) (pg : Nat) (hpg : K pg) (v : Value) (bs : List Int) (G : Nat → Prop) (hb : Reads w v (bs.map (Value.int .u8)) G)
    (h1 : bs.length ≤ 400) (h2 : freeIdx (con pg).ss < 60) (h3 : usedOf (withOf (con pg).ss (freeIdx (con pg).ss) bs) ≤ 512) (h4 : InB bs) :
    Calls Tryz.prog 24 #[.pointer (some ⟨pg, 0, none⟩), v] w fun e w' => e = .returned (.tuple #[.int .i64 (freeIdx (con pg).ss), .nilIface]) ∧
      LiveTo w0 w bd b mb Z d P K (fun x => if x = pg then { con pg with ss := withOf (con pg).ss (freeIdx (con pg).ss) bs } else con x) w' := by
  obtain ⟨F, S, R, L, hZ⟩ := h
  obtain ⟨hp, hf⟩ := L.page pg hpg
  have hg := hf.good
  refine (page_insert w pg (con pg) R hp ⟨hg.len, fun s hs => Nat.le_trans (hg.size s hs) (by omega)⟩ v bs G hb h1 h2 h3).mono ?_
  rintro e w' ⟨rfl, hp', hk⟩
  have hs := hk.size
  have hNp : ¬ R pg := by obtain ⟨lv, -, -, q⟩ := hp; exact q
  obtain ⟨f1, f2, f3, f4, f5, f6⟩ := L.far pg (.inl hpg)
  have hfar : ∀ x, (K x ∨ (R x ∧ x < w.heap.size ∨ w.heap.size ≤ x) ∧ x < w'.heap.size) → ¬ F x ∧ x ≠ b ∧ x ≠ mb ∧ ¬ S x ∧ w0.heap.size ≤ x ∧ x < w'.heap.size := by
    intro x hx
    have hlow : (K x ∨ R x) → ¬ F x ∧ x ≠ b ∧ x ≠ mb ∧ ¬ S x ∧ w0.heap.size ≤ x ∧ x < w'.heap.size := fun h => by
      obtain ⟨q1, q2, q3, q4, q5, q6⟩ := L.far x h
      exact ⟨q1, q2, q3, q4, q5, by omega⟩
    rcases hx with h | ⟨h | h, h'⟩
    · exact hlow (.inl h)
    · exact hlow (.inr h.1)
    · have b1 := L.pool.lt
      have b2 := L.pool.map.lt
      have b3 := L.kept.size
      exact ⟨fun e => by have := L.disk.under x e; omega, by omega, by omega, fun e => by have := L.pool.under x e; omega, by omega, h'⟩
  refine ⟨rfl, fun x => Z x ∨ w.heap.size ≤ x, ⟨F, S, fun x => (R x ∧ x < w.heap.size ∨ w.heap.size ≤ x) ∧ x < w'.heap.size, ⟨L.pool.kept hk (fun e => f2 (show b = pg from e).symm) (fun e => f3 (show mb = pg from e).symm) (fun x hx e => f4 (by rw [← show x = pg from e]; exact hx)),
    L.disk.kept hk (fun x hx e => f1 (by rw [← show x = pg from e]; exact hx)), L.fit, L.keyed, L.used, L.len, L.room, fun x hx => ?_, fun p hp => ?_, hfar, L.Fb, L.Fm, L.FS, L.new, L.kept.trans hk fun x hx e => by have e : x = pg := e; omega⟩, fun x hx => ?_⟩, fun x hx => hx, hk.mono fun x _ e => hZ x (.inr (.inr (.inr (.inr (.inl (by rw [show x = pg from e]; exact hpg))))))⟩
  · by_cases hxp : x = pg
    · subst hxp
      rw [if_pos rfl]
      refine ⟨hp'.mono (fun y hy q => ⟨q, hy⟩) (fun e => e.1.elim (fun e => hNp e.1) (fun e => by omega)), ⟨⟨hg.kind, hg.id, ?_, ?_, h3, ?_⟩, ?_⟩⟩
      · show (withOf _ _ _).length ≤ 60
        unfold withOf
        split
        · rw [List.length_set]; exact hg.len
        · rw [List.length_append]; have := freeIdx_le (con x).ss; simp; omega
      · exact withOf_sized hg.size h1
      · show (withOf _ _ _).getLast? ≠ some none
        unfold withOf
        split
        · rename_i hlt
          have hpos : 0 < (con x).ss.length := by omega
          have hl := hg.last
          rw [List.getLast?_eq_getElem?] at hl ⊢
          rw [List.length_set]
          by_cases he : freeIdx (con x).ss = (con x).ss.length - 1
          · rw [he, List.getElem?_set_self (by omega)]; simp
          · rw [List.getElem?_set_ne he]; exact hl
        · simp
      · intro b' hb'
        simp only [withOf] at hb'
        split at hb'
        · rcases List.mem_or_eq_of_mem_set hb' with e | e
          · exact hf.bytes b' e
          · rw [Option.some.inj e]; exact h4
        · rcases List.mem_append.1 hb' with e | e
          · exact hf.bytes b' e
          · rw [Option.some.inj (List.mem_singleton.1 e)]; exact h4
    · rw [if_neg hxp]
      have hxl := (L.far x (.inl hx)).2.2.2.2.2
      refine ⟨((L.page x hx).1.kept hk hxp (fun y hy e => hNp (by rw [← show y = pg from e]; exact hy))).mono (fun y hy q => ⟨.inl ⟨q, (L.far y (.inr q)).2.2.2.2.2⟩, hy⟩) (fun e => e.1.elim (fun e => by obtain ⟨lv, -, -, q⟩ := (L.page x hx).1; exact q e.1) (fun e => by omega)), (L.page x hx).2⟩
  · have := L.held p hp
    by_cases hxp : p.2.pg = pg
    · rw [if_pos hxp]; exact ⟨this.1, by rw [← hxp]; exact this.2⟩
    · rw [if_neg hxp]; exact this
  · rcases hx with hx | hx | hx | hx | hx | hx
    · exact .inl (hZ x (.inl hx))
    · exact .inl (hZ x (.inr (.inl hx)))
    · exact .inl (hZ x (.inr (.inr (.inl hx))))
    · exact .inl (hZ x (.inr (.inr (.inr (.inl hx)))))
    · exact .inl (hZ x (.inr (.inr (.inr (.inr (.inl hx))))))
    · rcases hx.1 with hx | hx
      · exact .inl (hZ x (.inr (.inr (.inr (.inr (.inr hx.1))))))
      · exact .inr hx
end Go.Proofs.YthppgchmamonnaaGreatDoor
