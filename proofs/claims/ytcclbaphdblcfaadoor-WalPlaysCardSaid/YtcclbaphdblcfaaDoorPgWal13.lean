/- The laws of the log: recs, small. -/
import Derived.Test.YtcclbaphdblcfaaDoorPgWal12
namespace Go.Proofs.YtcclbaphdblcfaaDoor
open Go.RowKit

/-- records that hang on their numbers -/
def recRows (frm n size : Nat) : List (List Value) := (List.range n).map fun (i : Nat) => blockRow size ((frm : Int) + (i : Int))
theorem recRows_length (frm n size : Nat) : (recRows frm n size).length = n := by simp [recRows]
theorem recRows_get (frm n size k : Nat) (h : k < n) : (recRows frm n size)[k]'(by rw [recRows_length]; exact h) = blockRow size ((frm : Int) + (k : Int)) := by simp [recRows]

set_option maxHeartbeats 1000000 in
theorem recs_any (w : World) (frm n size : Nat) (hf : frm ≤ 1000000000) (hn : n ≤ 100000) (hs : size ≤ 100000) :
    Calls Tryd.prog 14 #[.int .i64 frm, .int .i64 n, .int .i64 size] w fun e w' => ∃ b cap, e = .returned (.slice b n cap) ∧ OwnRows w' 47 5 (.slice b n cap) (recRows frm n size) (From w.heap.size) ∧ Kept Nob w w' := by
  go_enter Tryd.func14, Tryd.ntmps14
  go_wp2
  go_loopw [7, 8] (fun o i wr => ∃ k : Nat, k ≤ n ∧ i = .int .i64 k ∧ CopRel w (recRows frm n size) k o wr) (fun _ i _ => n - (intOf i).toNat)
  case atStart => exact ⟨0, Nat.zero_le _, rfl, none, 0, [], rfl, rfl, Own.nil _ _ _, RowsAt.nil _ _ _, Kept.refl _ _⟩
  case round =>
    obtain ⟨k, hk, rfl, b, c, vs', rfl, hl', hrow, hrows, hw⟩ := hrel
    have HL' := Lib.hid hl'
    have HRow := Lib.hid hrow
    have HRows := Lib.hid hrows
    have HW := Lib.hid hw
    clear hl' hrow hrows hw
    by_cases hlt : k < n
    · have HC := Lib.hid (block_any wr size hs ((frm : Int) + (k : Int)))
      have HX := Lib.hid (recRows_get frm n size k hlt)
      go_wp2_with (first
        | (go_at_call 28; refine HC.out.mono ?_; rintro e w1 ⟨g1, rfl, ho1, hk1⟩; have HO1 := Lib.hid ho1; have HK1 := Lib.hid hk1; clear ho1 hk1)
        | (at_builtin; refine wpList_append1_pg rfl _ _ 34 rfl tRows (.slice b k c) vs' (.slice (some ⟨g1, 0, none⟩) size size) (From w.heap.size) ⟨w1.heap.size, 0, none⟩ 1 rfl rfl ((HRow.out.kept HK1.out (fun _ _ f => f)).alloc _) (by simp) rfl (Nat.le_refl _) rfl (by have := HL'.out; omega) ?_; intro g2 cap2 w2 ho2 hk2; have HO2 := Lib.hid ho2; have HK2 := Lib.hid hk2; clear ho2 hk2))
      have HST := Lib.hid (CopRel.stepOf (xss := recRows frm n size) (k := k) (by rw [recRows_length]; exact hlt) HX.out.symm HL'.out HRow.out HRows.out HW.out HO1.out HK1.out HO2.out HK2.out)
      go_roundw
      case rel => exact ⟨k + 1, by omega, by go_num, HST.out⟩
      case measure => simp [intOf]; omega
    · have hkn : k = n := by omega
      subst hkn
      go_wp2
      go_ret
      have hr := HRows.out
      rw [List.take_of_length_le (by rw [recRows_length]; exact Nat.le_refl _)] at hr
      exact ⟨b, c, rfl, ⟨vs', HRow.out, hr⟩, HW.out⟩
end Go.Proofs.YtcclbaphdblcfaaDoor
