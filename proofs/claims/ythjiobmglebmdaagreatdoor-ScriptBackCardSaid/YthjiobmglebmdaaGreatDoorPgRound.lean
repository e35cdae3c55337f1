/- The verifier's Round. -/
import Derived.Test.YthjiobmglebmdaaGreatDoorChecked
import Derived.Test.YthjiobmglebmdaaGreatDoorPgBase
namespace Go.Proofs.YthjiobmglebmdaaGreatDoor
open Go.RowKit

theorem tmod_up (k n : Int) (h0 : 0 < n) (h1 : n ≤ 1000000000) (h : k.tmod n < 0) : wrap64 (k.tmod n + n) = k % n := by
  have h2 := Int.lt_tmod_of_pos k h0
  have h3 := Int.tmod_eq_emod (a := k) (b := n)
  have h4 := Int.emod_nonneg k (show n ≠ 0 by omega)
  rw [IntWalk.wrap64_in _ (by omega)]
  rw [h3] at h ⊢
  split
  · rename_i hc; rw [if_pos hc] at h; omega
  · have : (n.natAbs : Int) = n := by omega
    omega
theorem tmod_id (k n : Int) (h0 : 0 < n) (h : 0 ≤ k.tmod n) : k.tmod n = k % n := by
  have h3 := Int.tmod_eq_emod (a := k) (b := n)
  have h4 := Int.emod_lt_of_pos k h0
  rw [h3] at h ⊢
  split
  · omega
  · rename_i hc
    rw [if_neg hc] at h
    have : (n.natAbs : Int) = n := by omega
    omega

theorem ret_int' {k : IntKind} {a b : Int} (h : a = b) : Ending.returned (.int k a) = .returned (.int k b) := by rw [h]
theorem ret_bool' {a b : Bool} (h : a = b) : Ending.returned (.bool a) = .returned (.bool b) := by rw [h]

theorem round_any (w : World) (k n : Int) (h0 : 0 < n) (h1 : n ≤ 1000000000) :
    Calls Tryz.prog 18 #[.int .i64 k, .int .i64 n] w fun e w' => e = .returned (.int .i64 (k % n)) ∧ w = w' := by
  have hne : (n == 0) = false := beq_eq_false_iff_ne.2 (by omega)
  go_enter Tryz.func18, Tryz.ntmps18
  go_wp2
  · have hlt : k.tmod n < 0 := by assumption
    go_ret
    exact ⟨ret_int' (tmod_up k n h0 h1 hlt), rfl⟩
  · have hge : 0 ≤ k.tmod n := by assumption
    go_ret
    exact ⟨ret_int' (tmod_id k n h0 hge), rfl⟩

end Go.Proofs.YthjiobmglebmdaaGreatDoor
