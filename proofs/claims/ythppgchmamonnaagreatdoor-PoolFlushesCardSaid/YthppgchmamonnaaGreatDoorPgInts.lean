/- pergolaalike.Ints: two rows of numbers. -/
import Derived.Test.YthppgchmamonnaaGreatDoorPgAlike
namespace Go.Proofs.YthppgchmamonnaaGreatDoor
open Go.RowKit

theorem map_i64_inj {xs ys : List Int} (h : xs.map (Value.int .i64) = ys.map (Value.int .i64)) : xs = ys := by
  induction xs generalizing ys with
  | nil => cases ys with
    | nil => rfl
    | cons y r => simp at h
  | cons x r ih =>
    cases ys with
    | nil => simp at h
    | cons y r => simp at h; rw [h.1, ih h.2]
set_option maxHeartbeats 400000 in
theorem ints_any (w : World) (v u : Value) (xs ys : List Int) (F G : Nat → Prop) (h1 : Reads w v (xs.map (Value.int .i64)) F) (h2 : Reads w u (ys.map (Value.int .i64)) G) (hl : xs.length < 1000000000) (hl2 : ys.length < 1000000000) :
    Calls Tryz.prog 26 #[v, u] w (RetSame w (xs.map (Value.int .i64)) (ys.map (Value.int .i64))) := by
  obtain ⟨va, vc, rfl, _⟩ := h1.shape
  obtain ⟨ua, uc, rfl, _⟩ := h2.shape
  simp only [List.length_map]
  have H1 := Lib.hid h1
  have H2 := Lib.hid h2
  clear h1 h2
  by_cases hlen : xs.length = ys.length
  · have hb : ((xs.length : Int) != (ys.length : Int)) = false := by simp [hlen]
    have HL := Lib.hid hlen
    clear hlen
    go_enter Tryz.func26, Tryz.ntmps26
    go_wp2
    go_loopw [5] (fun i wr => ∃ k : Nat, k ≤ xs.length ∧ i = .int .i64 k ∧ xs.take k = ys.take k ∧ ∃ n, wr = w.drewN n) (fun i _ => xs.length - (intOf i).toNat)
    case atStart => exact ⟨0, Nat.zero_le _, rfl, rfl, 0, rfl⟩
    case round =>
      obtain ⟨k, hk, rfl, he, n, rfl⟩ := hrel
      have HE := Lib.hid he
      clear he
      by_cases hlt : k < xs.length
      · have hlt2 : k < ys.length := by rw [← HL.out]; exact hlt
        obtain ⟨b1, o1, hva, c1⟩ : ∃ b o, va = some ⟨b, o, none⟩ ∧ w.cell? ⟨b, o + k, none⟩ = some (.int .i64 xs[k]) := by
          rcases H1.out with ⟨hz, _⟩ | ⟨b, o, c, hx, _, _, _, hc⟩
          · simp at hz; simp [hz] at hlt
          · simp only [Value.slice.injEq] at hx
            exact ⟨b, o, hx.1, hc k _ (by simp [hlt])⟩
        obtain ⟨b2, o2, hua, c2⟩ : ∃ b o, ua = some ⟨b, o, none⟩ ∧ w.cell? ⟨b, o + k, none⟩ = some (.int .i64 ys[k]) := by
          rcases H2.out with ⟨hz, _⟩ | ⟨b, o, c, hx, _, _, _, hc⟩
          · simp at hz; simp [hz] at hlt2
          · simp only [Value.slice.injEq] at hx
            exact ⟨b, o, hx.1, hc k _ (by simp [hlt2])⟩
        subst hva hua
        have i0 : (0 : Int) ≤ (k : Int) := Int.natCast_nonneg _
        have i1 : (k : Int) < (xs.length : Int) := by omega
        have i2 : (k : Int) < (ys.length : Int) := by omega
        have e1 : xs.take (k + 1) = xs.take k ++ [xs[k]] := List.take_succ_eq_append_getElem hlt
        have e2 : ys.take (k + 1) = ys.take k ++ [ys[k]] := List.take_succ_eq_append_getElem hlt2
        have E1 := Lib.hid e1
        have E2 := Lib.hid e2
        clear e1 e2
        by_cases heq : xs[k] = ys[k]
        · have hbe : (xs[k] != ys[k]) = false := by simp [heq]
          have HQ := Lib.hid heq
          clear heq
          go_wp2_with fail
          go_quiet (fail)
          go_wp2
          go_roundw
          case rel => exact ⟨k + 1, by omega, by go_num, by rw [E1.out, E2.out, HE.out, HQ.out], _, rfl⟩
          case measure => simp [intOf]; omega
        · have hbe : (xs[k] != ys[k]) = true := by simp [heq]
          have HQ := Lib.hid heq
          clear heq
          go_wp2_with fail
          go_quiet (fail)
          go_wp2
          go_ret
          refine ⟨false, _, rfl, ⟨fun h => (by cases h), fun h => ?_⟩, World.drewN_drewN _ _ _⟩
          have h2 := map_i64_inj h
          subst h2
          exact absurd rfl HQ.out
      · obtain rfl : k = xs.length := by omega
        go_wp2
        go_ret
        refine ⟨true, _, rfl, ⟨fun _ => ?_, fun _ => rfl⟩, rfl⟩
        have h2 := HE.out
        rw [List.take_length, HL.out, List.take_length] at h2
        rw [h2]
  · have hb : ((xs.length : Int) != (ys.length : Int)) = true := by simp; omega
    have HL := Lib.hid hlen
    clear hlen
    go_enter Tryz.func26, Tryz.ntmps26
    go_wp2
    go_ret
    exact ⟨false, 0, rfl, ⟨fun h => (by cases h), fun h => absurd (show xs.length = ys.length by rw [map_i64_inj h]) HL.out⟩, rfl⟩
end Go.Proofs.YthppgchmamonnaaGreatDoor
