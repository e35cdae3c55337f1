/- The pool: Pin. -/
import Derived.Test.YthppgchmamonnaaGreatDoorPgPool6
namespace Go.Proofs.YthppgchmamonnaaGreatDoor
open Go.RowKit

/-- a page's entry turns -/
def Pl.set (P : Pl) (k : Int) (x : Hd) : Pl := { P with all := P.all.map fun p => if p.1 = k then (k, x) else p }
theorem pairwise_sym {α : Type} {R : α → α → Prop} (hs : ∀ a b, R a b → R b a) : ∀ {l : List α}, l.Pairwise R → ∀ a ∈ l, ∀ b ∈ l, a ≠ b → R a b := by
  intro l
  induction l with
  | nil => intro _ a h; cases h
  | cons y r ih =>
    intro h a ha b hb hne
    rw [List.pairwise_cons] at h
    rcases List.mem_cons.1 ha with ha1 | ha1
    · rcases List.mem_cons.1 hb with hb1 | hb1
      · exact absurd (ha1.trans hb1.symm) hne
      · exact ha1 ▸ h.1 b hb1
    · rcases List.mem_cons.1 hb with hb1 | hb1
      · exact hs _ _ (hb1 ▸ h.1 a ha1)
      · exact ih h.2 a ha1 b hb1 hne
/-- one page has one entry -/
theorem PoolAt.one {w : World} {b bd mb : Nat} {P : Pl} {S : Nat → Prop} (h : PoolAt w b bd mb P S) {k : Int} {x y : Hd} (hx : (k, x) ∈ P.all) (hy : (k, y) ∈ P.all) : x = y := by
  have h1 := h.find hx
  have h2 := h.find hy
  rw [h1] at h2
  have hg : x.g = y.g := Option.some.inj h2
  by_cases hxy : x = y
  · exact hxy
  · exact absurd hg (pairwise_sym (fun _ _ q e => q e.symm) h.once _ hx _ hy (fun e => hxy (Prod.mk.inj e).2))
theorem PoolAt.inner {w w' : World} {b bd mb : Nat} {P : Pl} {S : Nat → Prop} (h : PoolAt w b bd mb P S) {k : Int} {x : Hd} (hx : (k, x) ∈ P.all) (x' : Hd) (hg : x'.g = x.g) (hk : Kept (Just x.g) w w')
    (hb : w'.heap[x.g]? = some (.cells #[.pointer (some ⟨x'.pg, 0, none⟩), .int .i64 x'.pins, .bool x'.dirty, .int .i64 x'.lsn, .int .i64 x'.used] 80 (0, 0))) : PoolAt w' b bd mb (P.set k x') S := by
  have hSx := (h.held _ hx).1
  have hnb : ¬ Just x.g b := fun e => h.Sb (by rw [show b = x.g from e]; exact hSx)
  have hnm : ¬ Just x.g mb := fun e => h.Sm (by rw [show mb = x.g from e]; exact hSx)
  have hmap : (P.set k x').map = P.map := by
    simp only [Pl.map, Pl.set, List.map_map]
    refine List.map_congr_left fun p hp => ?_
    show ((if p.1 = k then (k, x') else p).1, (if p.1 = k then (k, x') else p).2.g) = _
    by_cases hpk : p.1 = k
    · obtain ⟨pk, y⟩ := p
      simp only at hpk
      subst hpk
      rw [if_pos rfl, h.one hp hx]
      exact congrArg (Prod.mk _) hg
    · rw [if_neg hpk]
  refine ⟨(hk.block b h.lt hnb).trans h.head, by rw [hmap]; exact h.map.kept hk hnm, fun p hp => ?_, ?_, h.Sb, h.Sm, h.bm, h.under.mono hk.size⟩
  · simp only [Pl.set, List.mem_map] at hp
    obtain ⟨q, hq, rfl⟩ := hp
    by_cases hqk : q.1 = k
    · rw [if_pos hqk]
      show S x'.g ∧ w'.heap[x'.g]? = _
      rw [hg]
      exact ⟨hSx, hb⟩
    · rw [if_neg hqk]
      have hne : ¬ Just x.g q.2.g := fun e => pairwise_sym (fun _ _ q e => q e.symm) h.once _ hq _ hx (fun e => hqk (by rw [e])) e
      exact ⟨(h.held _ hq).1, (hk.block _ (h.under _ (h.held _ hq).1) hne).trans (h.held _ hq).2⟩
  · rw [Pl.set]
    refine List.pairwise_map.2 (h.once.imp_of_mem fun {p q} hp hq hpq => ?_)
    have e : ∀ r ∈ P.all, (if r.1 = k then (k, x') else r).2.g = r.2.g := by
      intro r hr
      by_cases hrk : r.1 = k
      · obtain ⟨rk, y⟩ := r
        simp only at hrk
        subst hrk
        rw [if_pos rfl, h.one hr hx]
        exact hg
      · rw [if_neg hrk]
    rw [e p hp, e q hq]
    exact hpq
/-- behind a Pin of a page that is held -/
def Pl.hit (P : Pl) (k : Int) (x : Hd) : Pl := { P with hits := P.hits + 1, clock := P.clock + 1 }.set k { x with pins := x.pins + 1, used := P.clock + 1 }

/-- what a pool may turn -/
def PoolF (b mb : Nat) (S : Nat → Prop) : Nat → Prop := fun x => x = b ∨ x = mb ∨ S x
theorem PoolAt.look_ok {w : World} {b bd mb : Nat} {P : Pl} {S : Nat → Prop} (h : PoolAt w b bd mb P S) (k : Int) (h0 : -1000000 ≤ k) (h1 : k ≤ 1000000) :
    (Instr.lookup 74 (.map (some mb)) (.int .i64 k) true).run Tryz.prog w = .ok (.tuple #[ptrOf (Proofs.YthppgchmamonnaaGreatDoor.find P.map k), .bool (Proofs.YthppgchmamonnaaGreatDoor.find P.map k).isSome]) w :=
  h.map.look_ok Tryz.underlying74 (by kernel_rfl) k (by simp only [Lit.wf, Bool.and_eq_true, decide_eq_true_eq]; exact ⟨by show -9223372036854775808 ≤ k; omega, by show k ≤ 9223372036854775807; omega⟩)

set_option maxRecDepth 100000 in
set_option maxHeartbeats 1000000 in
theorem pool_pin_hit (w : World) (b bd mb : Nat) (P : Pl) (S : Nat → Prop) (h : PoolAt w b bd mb P S) (k : Nat) (x : Hd) (hx : ((k : Int), x) ∈ P.all) (hkp : k < P.pages) (hpp : P.pages ≤ 100000)
    (hc : P.clock ≤ 1000000000000) (hh : P.hits ≤ 1000000000000) (hp : x.pins ≤ 1000000000000) :
    Calls Tryz.prog 12 #[.pointer (some ⟨b, 0, none⟩), .int .i64 k] w fun e w' =>
      e = .returned (.tuple #[.pointer (some ⟨x.pg, 0, none⟩), .nilIface]) ∧ PoolAt w' b bd mb (P.hit k x) S ∧ Kept (PoolF b mb S) w w' := by
  have HG := Lib.hid (pool_gone w b bd mb P S h)
  have c1 : w.cell? ⟨b, 1, none⟩ = some (.int .i64 P.pages) := cell_at h.head 1 _ rfl
  have c5 : w.cell? ⟨b, 5, none⟩ = some (.map (some mb)) := cell_at h.head 5 _ rfl
  have c6 : w.cell? ⟨b, 6, none⟩ = some (.int .i64 P.hits) := cell_at h.head 6 _ rfl
  have f6 := frozen_at h.head 6
  have c4 : w.cell? ⟨b, 4, none⟩ = some (.int .i64 P.clock) := cell_at h.head 4 _ rfl
  have f4 := frozen_at h.head 4
  have hlk := h.look_ok (k : Int) (by omega) (by omega)
  rw [h.find hx] at hlk
  have hb := (h.held _ hx).2
  have d0 : w.cell? ⟨x.g, 0, none⟩ = some (.pointer (some ⟨x.pg, 0, none⟩)) := cell_at hb 0 _ rfl
  have d1 : w.cell? ⟨x.g, 1, none⟩ = some (.int .i64 x.pins) := cell_at hb 1 _ rfl
  have d4 : w.cell? ⟨x.g, 4, none⟩ = some (.int .i64 x.used) := cell_at hb 4 _ rfl
  have e1 := frozen_at hb 1
  have e4 := frozen_at hb 4
  have hne : b ≠ x.g := fun e => h.Sb (by rw [e]; exact (h.held _ hx).1)
  have HP := Lib.hid h
  have HX := Lib.hid hx
  have t0 : ¬ (k : Int) < 0 := by omega
  have t1 : ¬ (P.pages : Int) ≤ (k : Int) := by omega
  simp only [ptrOf, Option.isSome] at hlk
  clear h hx hb
  go_enter Tryz.func12, Tryz.ntmps12
  go_wp2_with (go_at_call 34; refine HG.out.mono ?_; rintro e w' ⟨rfl, rfl⟩)
  go_ret2
  have hSx := (HP.out.held _ HX.out).1
  have k1 := kept2 w b 6 4 (.int .i64 ((P.hits : Int) + 1)) (.int .i64 ((P.clock : Int) + 1))
  have h1 := HP.out.turn (P' := { P with hits := P.hits + 1, clock := P.clock + 1 }) k1 rfl (heap_set _ b 4 _ _ _ (heap_set w b 6 _ _ _ HP.out.head))
  have k2 := kept2 ((w.setCell ⟨b, 6, none⟩ (.int .i64 ((P.hits : Int) + 1))).setCell ⟨b, 4, none⟩ (.int .i64 ((P.clock : Int) + 1))) x.g 1 4 (.int .i64 ((x.pins : Int) + 1)) (.int .i64 ((P.clock : Int) + 1))
  have h2 := h1.inner (k := k) HX.out { x with pins := x.pins + 1, used := P.clock + 1 } rfl k2 (heap_set _ x.g 4 _ _ _ (heap_set _ x.g 1 _ _ _ (h1.held _ HX.out).2))
  exact ⟨rfl, h2, (k1.mono fun _ _ q => .inl q).trans' (k2.mono fun y _ q => .inr (.inr (by rw [show y = x.g from q]; exact hSx)))⟩
end Go.Proofs.YthppgchmamonnaaGreatDoor
