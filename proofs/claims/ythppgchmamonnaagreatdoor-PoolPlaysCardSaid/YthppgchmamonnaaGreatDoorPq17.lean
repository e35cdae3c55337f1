/- Slices of structs as they come in: each field's cell, and its own reading. -/
import Derived.Test.YthppgchmamonnaaGreatDoorPq01
import Derived.ChangeSame
import Derived.Deep.Fields
import Derived.Deep.Grids
import Derived.Deep.Slices
namespace Go.Proofs.YthppgchmamonnaaGreatDoor
open Go.ChangeShapes Go.WideShapes Go.Deep
theorem addr_plain {w : World} {a : Addr} {v : Value} (h : w.cell? (a.add 0) = some v) : a.spot = none := by
  obtain ⟨b, o, sp⟩ := a
  cases sp with
  | none => rfl
  | some s =>
    have : (⟨b, o, some s⟩ : Addr).add 0 = ⟨b, o, some s⟩ := rfl
    rw [this] at h
    simp [World.cell?] at h
    split at h <;> simp_all
theorem addr_add (b o i : Nat) : (⟨b, o, none⟩ : Addr).add i = ⟨b, o + i, none⟩ := by unfold Addr.add; split <;> simp_all
section
variable {H : Type} {enc : TypeId × Value → H} {P : Program} {w : World} {base : Nat} {spare : Nat → Bool} {held : Bool}
theorem struct_cells {t e : TypeId} {fs : Array Field} {fuel : Nat} {a : Addr} {len cap : Nat} {x : DataW H × List MemPlace} (ht : P.underlying t = some (.slice e)) (he : P.underlying e = some (.struct fs))
    (hone : oneCellFields P fs = true) (hC : P.cellsOf e = fs.size) (h : DataW.trod enc P w base spare held fuel t [.slice (some a) len cap] = some x) :
    len ≤ cap ∧ cap ≤ maxLen ∧ ∀ i, i < len → ∀ (j : Nat) (f : Field), fs[j]? = some f → ∃ (v : Value) (y : DataW H × List MemPlace) (n : Nat), w.cell? (a.add (i * fs.size + j)) = some v ∧ DataW.trod enc P w base spare held n f.type [v] = some y := by
  rcases open_slice ht h with ⟨h0, _⟩ | ⟨a', len', cap', m, n, D, Pl, hcs, hb, hl, hm, hmm, -, hi⟩
  · simp at h0
  · simp only [List.cons.injEq, Value.slice.injEq, Option.some.injEq, and_true] at hcs
    obtain ⟨rfl, rfl, rfl⟩ := hcs
    refine ⟨hl, hm, fun i hil j f hj => ?_⟩
    obtain ⟨cs', hc, hr⟩ := hi i (by rw [hmm]; split <;> omega)
    rw [hC] at hc
    obtain ⟨xs, n', -, -, -, hlen, hf⟩ := DataW.trod_struct he hr
    obtain ⟨ho, hk⟩ := hone_of hone j f hj
    have hjl : j < fs.size := (Array.getElem?_eq_some_iff.1 hj).1
    obtain ⟨_, hcl, hat⟩ := World.cells?_some hc
    have h1 := hf j f hj
    rw [ho, hk, List.drop_eq_getElem_cons (by omega), List.take_succ_cons, List.take_zero, List.getElem?_eq_getElem (by omega)] at h1
    refine ⟨cs'[j]'(by omega), _, n', ?_, h1⟩
    have := hat j hjl
    rw [List.getElem?_eq_getElem (by omega)] at this
    rw [← this, add_add]
end
theorem wf_i64 {n : Int} (h : (Lit.int .i64 n).wf = true) : -9223372036854775808 ≤ n ∧ n ≤ 9223372036854775807 := by
  simp only [Lit.wf, Bool.and_eq_true, decide_eq_true_eq] at h
  exact h
end Go.Proofs.YthppgchmamonnaaGreatDoor
