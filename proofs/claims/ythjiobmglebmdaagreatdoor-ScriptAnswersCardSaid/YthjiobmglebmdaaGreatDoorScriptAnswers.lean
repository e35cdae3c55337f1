/- ScriptAnswers: for every input the law returns true, and the input reads as it did. The frame follows the kit's skeleton; the walk is imported. -/
import Derived.Test.YthjiobmglebmdaaGreatDoorCards
import Derived.Test.YthjiobmglebmdaaGreatDoorTie
import Derived.ChangeSame
import Derived.ChangeVars
import Derived.JoinedOf
import Derived.RowKit
import Derived.RowKitTokens
import Derived.LaidLaws
import Derived.LaidHandle
import Derived.Stop.Joined
import Derived.SevenTiedAt
import Derived.Lay
import Derived.MakeChecks
import Derived.LaidMore
import Derived.LaidSub
import Derived.Test.YthjiobmglebmdaaGreatDoorRows
import Derived.WalkKit
import Derived.ProofKit
import Derived.OpenShut
import Derived.ShutString
import Derived.ChangeOld
import Derived.Below
import Derived.Deep.Grids
import Derived.Test.YthjiobmglebmdaaGreatDoorPgAnsws
import Derived.Test.YthjiobmglebmdaaGreatDoorPgScLaid
import Derived.Test.YthjiobmglebmdaaGreatDoorPgScOpen2
namespace Go.Proofs.YthjiobmglebmdaaGreatDoor.scriptAnswers
open Go.ChangeShapes Go.WideShapes Go.ChangeAt Go.RowKit
open Go.ChangeMaps (open_string shut_string)
open Go.Deep
set_option linter.unusedVariables false

theorem own : ownKnob Tryz.prog.godebug = none := by kernel_rfl
theorem laidOut : laidOutB Tryz.prog = true := by kernel_rfl

theorem reads_cells {w : World} {x : Addr} {len cap : Nat} {xs : List Value} (hx : xs.length = len) (hl : len ≤ cap) (hc : ∀ i, i < len → ∃ v, xs[i]? = some v ∧ w.cell? (x.add i) = some v) : Reads w (.slice (some x) len cap) xs (fun _ => True) := by
  by_cases h0 : len = 0
  · subst h0
    exact .inl ⟨List.eq_nil_of_length_eq_zero hx, some x, cap, rfl, fun h => by cases h⟩
  · obtain ⟨v0, _, hc0⟩ := hc 0 (by omega)
    obtain ⟨b, o, sp⟩ := x
    have hsp : sp = none := by
      cases sp with
      | none => rfl
      | some s =>
        have : (⟨b, o, some s⟩ : Addr).add 0 = ⟨b, o, some s⟩ := rfl
        rw [this] at hc0
        simp [World.cell?] at hc0
        split at hc0 <;> simp_all
    subst hsp
    refine .inr ⟨b, o, cap, by rw [hx], by rw [hx]; exact hl, cell_lt (a := ⟨b, o, none⟩) hc0, trivial, fun i v hi => ?_⟩
    have hil : i < len := by rw [← hx]; exact (List.getElem?_eq_some_iff.1 hi).1
    obtain ⟨v', hv', hci⟩ := hc i hil
    rw [show (⟨b, o, none⟩ : Addr).add i = ⟨b, o + i, none⟩ from by unfold Addr.add; split <;> simp_all] at hci
    rw [hci, ← hv', hi]

def laidL : List (String × DataW Unit) := [("math/bits.deBruijn32tab", Rows.laid_math_bits_deBruijn32tab), ("math/bits.deBruijn64tab", Rows.laid_math_bits_deBruijn64tab), ("internal/strconv.uint64pow10", Rows.laid_internal_strconv_uint64pow10), ("unicode/utf8.acceptRanges", Rows.laid_unicode_utf8_acceptRanges), ("strconv.ErrRange", Rows.laid_strconv_ErrRange), ("strconv.ErrSyntax", Rows.laid_strconv_ErrSyntax), ("unicode/utf8.first", Rows.laid_unicode_utf8_first)]

set_option maxRecDepth 100000 in
theorem lifted (os : Os) (started : os.Started) (H : Type) (enc : TypeId × Value → H) :
    ReturnsInHanded {} Tryz.checked os 3 .any (fun w args => (Rows.scriptAnswersSpec.pre enc Tryz.prog Tryz.f3 [] false w args ∧ laidMetH Tryz.prog laidL w) ∧ sizedMet enc Tryz.prog Tryz.f3 (OpenSpec.ofChange Rows.scriptAnswersSpec) false w args) (Rows.scriptAnswersSpec.post enc Tryz.prog Tryz.f3 false true false false) := by
  refine handed_shaped (C := Tryz.checked) (X := fun w _ => laidMetH Tryz.prog laidL w) (fun _ _ _ hh h => h.of_heap hh) own started (by kernel_rfl) Tryz.func3
    (ChangeSpec.witness_shaped (enc := enc) (C := Tryz.checked) (os := os) (X := fun w _ => laidMetH Tryz.prog laidL w) false (World.laidAll Tryz.prog os laidL) #[.agg #[.int .i64 0, .slice none 0 0, .slice none 0 0, .int .i64 0, .slice none 0 0, .bool false], .slice none 0 0] 8 (World.laidAll_os _ _ _) (World.shaped_of_ZipB (by kernel_rfl) (by kernel_rfl)) (by kernel_rfl) (by kernel_rfl) (by kernel_rfl) (by rw [MakeChecks.laidMetH_plain _ _ _ (by kernel_rfl)]; exact laidMet_laidAll _ (by kernel_rfl) (by kernel_rfl))) ?_
  intro W base args ds gs before hval0 hW _ _ hL hsh _
  have hE : Env W := env_of (l := laidL) (by have h := hL; rw [MakeChecks.laidMetH_plain _ _ _ (by kernel_rfl)] at h; exact h) rfl rfl rfl hsh
  have hval : ∀ (j : Nat) t v, Tryz.f3.params[j]? = some t → args[j]? = some v → Value.okWide Tryz.prog W .any base t v := hval0
  have hW' := hW
  obtain ⟨p, q, hA0, hV, rfl, hfz, hnd⟩ := hW
  have hA : DataW.TrodAll enc Tryz.prog W 0 (fun _ => true) true Tryz.f3.params.toList args.toList ds p := hA0
  rw [Tryz.params3] at hA hval
  obtain ⟨v0, vs0, d0, ds0, p0, q0, hargs, rfl, rfl, h0, r0⟩ := trodAll_cons hA
  obtain ⟨v1, vs1, d1, ds1, p1, q1, rfl, rfl, rfl, h1, r1⟩ := trodAll_cons r0
  obtain ⟨rfl, rfl, rfl⟩ := trodAll_nil r1
  obtain rfl : args = #[v0, v1] := by cases args; simp_all
  obtain ⟨rfl, rfl⟩ := trodVars_none hV
  have k0 := h0
  have lt0 : ∀ x ∈ p0, x.block < W.heap.size := by obtain ⟨m, hm⟩ := k0; exact DataW.trod_lt m _ _ _ hm
  obtain ⟨c0, vi0, vn0, n0, u0, has0, ids0, ns0, l0, rfl, r0'⟩ := ans_open (hval 0 28 v0 rfl rfl) h0
  obtain ⟨a1, len1, cap1, rfl⟩ := okWide_slice Tryz.underlying29 (hval 1 29 v1 rfl rfl)
  have k1 := h1
  have lt1 : ∀ x ∈ p1, x.block < W.heap.size := by obtain ⟨m, hm⟩ := k1; exact DataW.trod_lt m _ _ _ hm
  obtain ⟨x1, r1'⟩ : ∃ l : List (List UInt8), Reads W (.slice a1 len1 cap1) (l.map strV) (fun _ => True) := by
    obtain ⟨fuel, hf⟩ := h1
    simp only [Value.cells] at hf
    exact strs_of_row hf
  clear hA0 hval0
  refine (answers_any W c0 n0 _ _ _ _ x1 ids0 ns0 l0 has0 _ _ _ _ r1' r0'.2.1 r0'.2.2.2.1 r0'.2.2.2.2.2.2 hE r0'.1 r0'.2.2.1 r0'.2.2.2.2.1 r0'.2.2.2.2.2.1).mono fun e W' ⟨he, hkp⟩ => ?_
  have bel := hkp.below
  subst he
  exact ⟨_, rfl, _, _, _, [], _, [], hW', trodAll_mk1 (shut_bool Tryz.underlying4 _), (trodAll_cons_mk (Below.trod laidOut (by kernel_rfl) (of_decide_eq_true (by kernel_rfl)) k0 bel lt0) (trodAll_cons_mk (Below.trod laidOut (by kernel_rfl) (of_decide_eq_true (by kernel_rfl)) k1 bel lt1) trodAll_mk0)), rfl, bel.frame _, fun h => by cases h⟩

theorem proved : Rows.ScriptAnswersSaid :=
  OpenClaim.holds_of_wide 3 Tryz.f3 rfl rfl rfl rfl rfl rfl rfl ⟨rfl, rfl, rfl, rfl, rfl⟩ rfl rfl rfl rfl rfl (by kernel_rfl) Tryz.func3 (by kernel_rfl)
    (of_decide_eq_true (by kernel_rfl)) (by unfold Func.isWrapper; first | (rw [if_pos (by decide +kernel)]; kernel_rfl) | (rw [if_neg (by decide +kernel)]; exact ⟨rfl, rfl⟩))
    (fun os started H enc _ => lifted os started H enc)

theorem carded : Rows.ScriptAnswersCardSaid :=
  Claim7.holds_tied_plain_at .later [] [.data, .data, .data, .data, .sentinel, .sentinel, .pinned] true (true, "fc2458700452475271c065580bf19c075da9ad2392dfe6b1ebfc2bb72f240f0a") true
    proved (fun _ h => by cases h) (by kernel_rfl) (fun _ h => by cases h) scriptAnswers_row_tie rfl ⟨rfl, rfl⟩ (by kernel_rfl) rfl
    (fun f fn hf hfn => by
      obtain rfl : f = 3 := Option.some.inj ((show Tryz.prog.funcNamed "pergola/pergolalaw29.ScriptAnswers" = some 3 by kernel_rfl).symm.trans hf) |>.symm
      obtain rfl : fn = Tryz.f3 := (Option.some.inj (Tryz.func3.symm.trans hfn)).symm
      exact ⟨by kernel_rfl, fun j t ht => by
        rw [Tryz.params3] at ht
        have hm : t ∈ [28, 29] := by simpa using Array.mem_of_getElem? ht
        have hall : ([28, 29].all fun u => !Tryz.prog.wantsStandIn u) = true := by kernel_rfl
        exact (show Tryz.prog.wantsStandIn t = false by simpa using List.all_eq_true.1 hall t hm)⟩)
    (by kernel_rfl)
#print axioms carded
end Go.Proofs.YthjiobmglebmdaaGreatDoor.scriptAnswers
