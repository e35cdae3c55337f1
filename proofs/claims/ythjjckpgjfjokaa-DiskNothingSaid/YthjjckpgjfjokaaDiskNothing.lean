/- DiskNothing: for every input the law returns true, and the input reads as it did. The frame follows the kit's skeleton; the walk is imported. -/
import Derived.Test.YthjjckpgjfjokaaRows
import Derived.WalkKit
import Derived.ProofKit
import Derived.OpenShut
import Derived.ShutString
import Derived.ChangeOld
import Derived.Below
import Derived.Deep.Grids
import Derived.Test.YthjjckpgjfjokaaPgNot
namespace Go.Proofs.Ythjjckpgjfjokaa.diskNothing
open Go.ChangeShapes Go.WideShapes Go.ChangeAt Go.RowKit
open Go.ChangeMaps (open_string shut_string)
open Go.Deep
set_option linter.unusedVariables false

theorem own : ownKnob Try.prog.godebug = none := by kernel_rfl
theorem laidOut : laidOutB Try.prog = true := by kernel_rfl

theorem reads_cells {w : World} {x : Addr} {len cap : Nat} {xs : List Value} (hx : xs.length = len) (hl : len ≤ cap) (hc : ∀ i, i < len → ∃ v, xs[i]? = some v ∧ w.cell? (x.add i) = some v) : Reads w (.slice (some x) len cap) xs (fun _ => True) := by
  by_cases h0 : len = 0
  · subst h0
    exact .inl ⟨List.eq_nil_of_length_eq_zero hx, some x, cap, rfl, fun h => by cases h⟩
  · obtain ⟨v0, _, hc0⟩ := hc 0 (by omega)
    obtain ⟨b, o, sp⟩ := x
    have hsp : sp = none := by
      cases sp with
      | none => rfl
      | some s =>
        have : (⟨b, o, some s⟩ : Addr).add 0 = ⟨b, o, some s⟩ := rfl
        rw [this] at hc0
        simp [World.cell?] at hc0
        split at hc0 <;> simp_all
    subst hsp
    refine .inr ⟨b, o, cap, by rw [hx], by rw [hx]; exact hl, cell_lt (a := ⟨b, o, none⟩) hc0, trivial, fun i v hi => ?_⟩
    have hil : i < len := by rw [← hx]; exact (List.getElem?_eq_some_iff.1 hi).1
    obtain ⟨v', hv', hci⟩ := hc i hil
    rw [show (⟨b, o, none⟩ : Addr).add i = ⟨b, o + i, none⟩ from by unfold Addr.add; split <;> simp_all] at hci
    rw [hci, ← hv', hi]

set_option maxRecDepth 100000 in
theorem lifted (os : Os) (started : os.Started) (H : Type) (enc : TypeId × Value → H) :
    ReturnsInHanded {} Try.checked os 6 .any (Rows.diskNothingSpec.pre6 enc Try.prog Try.f6 Rows.diskNothingRow.domain false) (Rows.diskNothingSpec.post enc Try.prog Try.f6 false true false false) := by
  refine returnsInHanded_of_change (C := Try.checked) own started (by kernel_rfl) Try.func6
    (ChangeSpec.witness6 (enc := enc) (C := Try.checked) false ⟨#[], #[.int .i64 0], []⟩ 8 (by kernel_rfl) (by kernel_rfl) (by kernel_rfl) (by kernel_rfl)) ?_
  intro W base args ds gs before hval0 hW hcnd _
  have hval : ∀ (j : Nat) t v, Try.f6.params[j]? = some t → args[j]? = some v → Value.okWide Try.prog W .any base t v := hval0
  have hW' := hW
  obtain ⟨p, q, hA0, hV, rfl, hfz, hnd⟩ := hW
  have hA : DataW.TrodAll enc Try.prog W 0 (fun _ => true) true Try.f6.params.toList args.toList ds p := hA0
  rw [Try.params6] at hA hval
  obtain ⟨v0, vs0, d0, ds0, p0, q0, hargs, rfl, rfl, h0, r0⟩ := trodAll_cons hA
  obtain ⟨rfl, rfl, rfl⟩ := trodAll_nil r0
  obtain rfl : args = #[v0] := by cases args; simp_all
  obtain ⟨rfl, rfl⟩ := trodVars_none hV
  obtain ⟨a0, rfl, rfl, rfl, w0⟩ := open_int Try.underlying3 (hval 0 3 v0 rfl rfl) h0
  clear hA0 hval0
  refine (nothing_any W a0).mono fun e W' ⟨he, hkp⟩ => ?_
  have bel := hkp.below
  subst he
  exact ⟨_, rfl, _, _, _, [], _, [], hW', trodAll_mk1 (shut_bool Try.underlying4 _), (trodAll_cons_mk (shut_int Try.underlying3 w0) trodAll_mk0), rfl, bel.frame _, fun h => by cases h⟩

theorem proved : Rows.DiskNothingSaid :=
  OpenClaim.holds_of_wide 6 Try.f6 rfl rfl rfl rfl rfl rfl rfl ⟨rfl, rfl, rfl, rfl, rfl⟩ rfl rfl rfl rfl rfl (by kernel_rfl) Try.func6 (by kernel_rfl)
    (of_decide_eq_true (by kernel_rfl)) (by unfold Func.isWrapper; first | (rw [if_pos (by decide +kernel)]; kernel_rfl) | (rw [if_neg (by decide +kernel)]; exact ⟨rfl, rfl⟩))
    (fun os started H enc _ => lifted os started H enc)
#print axioms proved
end Go.Proofs.Ythjjckpgjfjokaa.diskNothing
