/- PoolPlays: for every input the law returns true, and the input reads as it did. The frame follows the kit's skeleton; the walk is imported. -/
import Derived.Test.YthppgchmamonnaaGreatDoorCards
import Derived.Test.YthppgchmamonnaaGreatDoorTie
import Derived.ChangeSame
import Derived.ChangeVars
import Derived.JoinedOf
import Derived.RowKit
import Derived.RowKitTokens
import Derived.LaidLaws
import Derived.LaidHandle
import Derived.Stop.Joined
import Derived.SevenTiedAt
import Derived.Test.YthppgchmamonnaaGreatDoorRows
import Derived.WalkKit
import Derived.ProofKit
import Derived.OpenShut
import Derived.ShutString
import Derived.ChangeOld
import Derived.Below
import Derived.Deep.Grids
import Derived.Test.YthppgchmamonnaaGreatDoorPq50
import Derived.Test.YthppgchmamonnaaGreatDoorPq13
namespace Go.Proofs.YthppgchmamonnaaGreatDoor.poolPlays
open Go.ChangeShapes Go.WideShapes Go.ChangeAt Go.RowKit
open Go.ChangeMaps (open_string shut_string)
open Go.Deep
set_option linter.unusedVariables false

theorem own : ownKnob Tryz.prog.godebug = none := by kernel_rfl
theorem laidOut : laidOutB Tryz.prog = true := by kernel_rfl

theorem reads_cells {w : World} {x : Addr} {len cap : Nat} {xs : List Value} (hx : xs.length = len) (hl : len ≤ cap) (hc : ∀ i, i < len → ∃ v, xs[i]? = some v ∧ w.cell? (x.add i) = some v) : Reads w (.slice (some x) len cap) xs (fun _ => True) := by
  by_cases h0 : len = 0
  · subst h0
    exact .inl ⟨List.eq_nil_of_length_eq_zero hx, some x, cap, rfl, fun h => by cases h⟩
  · obtain ⟨v0, _, hc0⟩ := hc 0 (by omega)
    obtain ⟨b, o, sp⟩ := x
    have hsp : sp = none := by
      cases sp with
      | none => rfl
      | some s =>
        have : (⟨b, o, some s⟩ : Addr).add 0 = ⟨b, o, some s⟩ := rfl
        rw [this] at hc0
        simp [World.cell?] at hc0
        split at hc0 <;> simp_all
    subst hsp
    refine .inr ⟨b, o, cap, by rw [hx], by rw [hx]; exact hl, cell_lt (a := ⟨b, o, none⟩) hc0, trivial, fun i v hi => ?_⟩
    have hil : i < len := by rw [← hx]; exact (List.getElem?_eq_some_iff.1 hi).1
    obtain ⟨v', hv', hci⟩ := hc i hil
    rw [show (⟨b, o, none⟩ : Addr).add i = ⟨b, o + i, none⟩ from by unfold Addr.add; split <;> simp_all] at hci
    rw [hci, ← hv', hi]

theorem et : Tryz.prog.globalNamed "errors.errorType" = some 0 := by kernel_rfl
theorem rt : (Tryz.prog.cutTypes.find? (·.1 == "internal/reflectlite.rtype")).map (·.2) = some 167 := by kernel_rfl
theorem oneRow : ((List.range 237).filter fun t => Tryz.prog.rowNamed t [101, 114, 114, 111, 114]) = [25] := by kernel_rfl
theorem typesSize : Tryz.prog.types.size = 237 := by kernel_rfl

/-- WHAT THE CONDITION GIVES A WALK: the variable's one cell. -/
theorem handle_of_laid {W : World} (h : laidMetH Tryz.prog [("errors.errorType", Rows.laid_errors_errorType)] W) : W.cell? ⟨0, 0, none⟩ = some (.iface 167 (.agg #[.pointer (some ⟨1, 25, none⟩)])) := by
  have h' : laidMet Tryz.prog [] W ∧ handlesMet Tryz.prog [("errors.errorType", Rows.laid_errors_errorType)] W := h
  obtain ⟨name, u, ty, e1, e2, e3, e4, e5⟩ := h'.2 _ (List.mem_singleton.2 rfl)
  have en : name = [101, 114, 114, 111, 114] := (Option.some.inj e1).symm
  subst en
  obtain rfl := Option.some.inj (rt.symm.trans e2)
  have hm : ty ∈ (List.range 237).filter fun t => Tryz.prog.rowNamed t [101, 114, 114, 111, 114] := List.mem_filter.2 ⟨List.mem_range.2 (by rw [← typesSize]; exact e3), e4⟩
  rw [oneRow] at hm
  obtain rfl := List.mem_singleton.1 hm
  have hh : typeHandle Tryz.prog 25 = .pointer (some ⟨1, 25, none⟩) := by kernel_rfl
  rw [hh] at e5
  simpa using World.var?_cell et e5 0

/-- A world that meets the condition: the settled one, the variable's cell laid. -/
noncomputable def laidWorld (os : Os) : World :=
  let w0 := World.holding Tryz.prog os ⟨#[], #[], []⟩
  { w0 with heap := w0.heap.modify 0 fun
      | .cells _ t frozen => .cells #[.iface 167 (.agg #[.pointer (some ⟨1, 25, none⟩)])] t frozen
      | o => o }
theorem laidWorld_met (os : Os) (args : Array Value) : laidMetH Tryz.prog [("errors.errorType", Rows.laid_errors_errorType)] ((laidWorld os).forCall (fun _ _ => 0) ⟨#[], args, []⟩).memory :=
  laidMetH_of_parts (laidMet_nil _ _) (by kernel_rfl)

set_option maxRecDepth 100000 in
theorem lifted (os : Os) (started : os.Started) (H : Type) (enc : TypeId × Value → H) :
    ReturnsInHanded {} Tryz.checked os 8 .any (fun w args => (Rows.poolPlaysSpec.pre enc Tryz.prog Tryz.f8 [] false w args ∧ laidMetH Tryz.prog [("errors.errorType", Rows.laid_errors_errorType)] w) ∧ sizedMet enc Tryz.prog Tryz.f8 (OpenSpec.ofChange Rows.poolPlaysSpec) false w args) (Rows.poolPlaysSpec.post enc Tryz.prog Tryz.f8 false true false false) := by
  refine returnsInHanded_of_change_and (C := Tryz.checked) (X := fun w _ => laidMetH Tryz.prog [("errors.errorType", Rows.laid_errors_errorType)] w) (fun _ _ _ hh h => h.of_heap hh) own started (by kernel_rfl) Tryz.func8
    (ChangeSpec.witness_at (enc := enc) (C := Tryz.checked) (os := os) (X := fun w _ => laidMetH Tryz.prog [("errors.errorType", Rows.laid_errors_errorType)] w) false (laidWorld os) #[.int .i64 0, .int .i64 0, .int .i64 0, .slice none 0 0] 8 rfl (by kernel_rfl) (by kernel_rfl) (by kernel_rfl) (by kernel_rfl) (by kernel_rfl) (laidWorld_met os _)) ?_
  intro W base args ds gs before hval0 hW _ _ hL _
  have ht := handle_of_laid hL
  have hval : ∀ (j : Nat) t v, Tryz.f8.params[j]? = some t → args[j]? = some v → Value.okWide Tryz.prog W .any base t v := hval0
  have hW' := hW
  obtain ⟨p, q, hA0, hV, rfl, hfz, hnd⟩ := hW
  have hA : DataW.TrodAll enc Tryz.prog W 0 (fun _ => true) true Tryz.f8.params.toList args.toList ds p := hA0
  rw [Tryz.params8] at hA hval
  obtain ⟨v0, vs0, d0, ds0, p0, q0, hargs, rfl, rfl, h0, r0⟩ := trodAll_cons hA
  obtain ⟨v1, vs1, d1, ds1, p1, q1, rfl, rfl, rfl, h1, r1⟩ := trodAll_cons r0
  obtain ⟨v2, vs2, d2, ds2, p2, q2, rfl, rfl, rfl, h2, r2⟩ := trodAll_cons r1
  obtain ⟨v3, vs3, d3, ds3, p3, q3, rfl, rfl, rfl, h3, r3⟩ := trodAll_cons r2
  obtain ⟨rfl, rfl, rfl⟩ := trodAll_nil r3
  obtain rfl : args = #[v0, v1, v2, v3] := by cases args; simp_all
  obtain ⟨rfl, rfl⟩ := trodVars_none hV
  obtain ⟨a0, rfl, rfl, rfl, w0⟩ := open_int Tryz.underlying3 (hval 0 3 v0 rfl rfl) h0
  obtain ⟨a1, rfl, rfl, rfl, w1⟩ := open_int Tryz.underlying3 (hval 1 3 v1 rfl rfl) h1
  obtain ⟨a2, rfl, rfl, rfl, w2⟩ := open_int Tryz.underlying3 (hval 2 3 v2 rfl rfl) h2
  obtain ⟨a3, len3, cap3, rfl⟩ := okWide_slice Tryz.underlying54 (hval 3 54 v3 rfl rfl)
  have k3 := h3
  have lt3 : ∀ x ∈ p3, x.block < W.heap.size := by obtain ⟨m, hm⟩ := k3; exact DataW.trod_lt m _ _ _ hm
  obtain ⟨x3, r3'⟩ : ∃ l, PStepsAt W (.slice a3 len3 cap3) l (fun j => j < W.heap.size) := by
    obtain ⟨fuel, hf⟩ := h3
    simp only [Value.cells] at hf
    exact steps_of_row hf
  clear hA0 hval0
  refine (pool_plays W a0 a1 a2 _ x3 r3' ht).mono fun e W' ⟨he, hkp⟩ => ?_
  have bel := hkp.below
  subst he
  exact ⟨_, rfl, _, _, _, [], _, [], hW', trodAll_mk1 (shut_bool Tryz.underlying4 _), (trodAll_cons_mk (shut_int Tryz.underlying3 w0) (trodAll_cons_mk (shut_int Tryz.underlying3 w1) (trodAll_cons_mk (shut_int Tryz.underlying3 w2) (trodAll_cons_mk (Below.trod laidOut (by kernel_rfl) (of_decide_eq_true (by kernel_rfl)) k3 bel lt3) trodAll_mk0)))), rfl, bel.frame _, fun h => by cases h⟩

theorem proved : Rows.PoolPlaysSaid :=
  OpenClaim.holds_of_wide 8 Tryz.f8 rfl rfl rfl rfl rfl rfl rfl ⟨rfl, rfl, rfl, rfl, rfl⟩ rfl rfl rfl rfl rfl (by kernel_rfl) Tryz.func8 (by kernel_rfl)
    (of_decide_eq_true (by kernel_rfl)) (by unfold Func.isWrapper; first | (rw [if_pos (by decide +kernel)]; kernel_rfl) | (rw [if_neg (by decide +kernel)]; exact ⟨rfl, rfl⟩))
    (fun os started H enc _ => lifted os started H enc)

theorem carded : Rows.PoolPlaysCardSaid :=
  Claim7.holds_tied_plain_at .later [] [.handle] true (true, "0614797ef16abd8c290b54157c7d4954f508a37d7cf0ebb42890357a8c9ea01e") true
    proved (fun _ h => by cases h) (by kernel_rfl) (fun _ h => by cases h) poolPlays_row_tie rfl ⟨rfl, rfl⟩ (by kernel_rfl) rfl
    (fun f fn hf hfn => by
      obtain rfl : f = 8 := Option.some.inj ((show Tryz.prog.funcNamed "pergola/pergolalaw12.PoolPlays" = some 8 by kernel_rfl).symm.trans hf) |>.symm
      obtain rfl : fn = Tryz.f8 := (Option.some.inj (Tryz.func8.symm.trans hfn)).symm
      exact ⟨by kernel_rfl, fun j t ht => by
        rw [Tryz.params8] at ht
        have hm : t ∈ [3, 3, 3, 54] := by simpa using Array.mem_of_getElem? ht
        have hall : ([3, 3, 3, 54].all fun u => !Tryz.prog.wantsStandIn u) = true := by kernel_rfl
        exact (show Tryz.prog.wantsStandIn t = false by simpa using List.all_eq_true.1 hall t hm)⟩)
    (by kernel_rfl)
#print axioms carded
end Go.Proofs.YthppgchmamonnaaGreatDoor.poolPlays
