/- Division bit by bit, in plain words. No program in sight. -/
import Derived.WalkKit
import Derived.Laws.Bits64b
namespace Go.Proofs.YthjiobmglebmdaaGreatDoor.Dv
def rv (N d m : Nat) : Nat := N / 2 ^ m % d
def qv (N d m : Nat) : Nat := N / 2 ^ m / d * 2 ^ m
def bt (N m : Nat) : Nat := N / 2 ^ m % 2
theorem half (N m : Nat) : N / 2 ^ m = 2 * (N / 2 ^ (m + 1)) + bt N m := by
  unfold bt
  rw [Nat.pow_succ, ← Nat.div_div_eq_div_mul]
  omega
theorem bt_le (N m : Nat) : bt N m ≤ 1 := by unfold bt; omega
theorem rv_lt {N d m : Nat} (hd : 0 < d) : rv N d m < d := Nat.mod_lt _ hd
theorem step {N d m : Nat} (hd : 0 < d) : (d ≤ 2 * rv N d (m + 1) + bt N m → rv N d m = 2 * rv N d (m + 1) + bt N m - d ∧ qv N d m = qv N d (m + 1) + 2 ^ m) ∧
    (2 * rv N d (m + 1) + bt N m < d → rv N d m = 2 * rv N d (m + 1) + bt N m ∧ qv N d m = qv N d (m + 1)) := by
  have hb := bt_le N m
  have hr := rv_lt (N := N) (m := m + 1) hd
  have hM := Nat.div_add_mod (N / 2 ^ (m + 1)) d
  have hh := half N m
  unfold rv qv at *
  generalize N / 2 ^ (m + 1) = M at *
  generalize bt N m = b at *
  generalize hQ : M / d = Q at *
  generalize hR : M % d = R at *
  have e : N / 2 ^ m = d * (2 * Q) + (2 * R + b) := by
    rw [hh, ← hM, Nat.mul_add, ← Nat.mul_assoc, Nat.mul_comm 2 d, Nat.mul_assoc, Nat.add_assoc]
  have hp : 2 ^ (m + 1) = 2 * 2 ^ m := by rw [Nat.pow_succ, Nat.mul_comm]
  constructor
  · intro h
    have e2 : N / 2 ^ m = d * (2 * Q + 1) + (2 * R + b - d) := by
      rw [e, Nat.mul_add, Nat.mul_one]; omega
    have h1 : N / 2 ^ m % d = 2 * R + b - d := by
      rw [e2, Nat.mul_add_mod, Nat.mod_eq_of_lt (by omega)]
    have h2 : N / 2 ^ m / d = 2 * Q + 1 := by
      rw [e2, Nat.mul_add_div hd, Nat.div_eq_of_lt (by omega), Nat.add_zero]
    refine ⟨h1, ?_⟩
    rw [h2, hp, Nat.add_mul, Nat.one_mul, ← Nat.mul_assoc, Nat.mul_comm Q 2]
  · intro h
    have h1 : N / 2 ^ m % d = 2 * R + b := by
      rw [e, Nat.mul_add_mod, Nat.mod_eq_of_lt h]
    have h2 : N / 2 ^ m / d = 2 * Q := by
      rw [e, Nat.mul_add_div hd, Nat.div_eq_of_lt h, Nat.add_zero]
    refine ⟨h1, ?_⟩
    rw [h2, hp, ← Nat.mul_assoc, Nat.mul_comm Q 2]
theorem bit_hi {hi lo m : Nat} (hl : lo < 18446744073709551616) (hm : 64 ≤ m) : hi / 2 ^ (m - 64) % 2 = bt (hi * 18446744073709551616 + lo) m := by
  unfold bt
  have e : 2 ^ m = 18446744073709551616 * 2 ^ (m - 64) := by
    rw [show (18446744073709551616 : Nat) = 2 ^ 64 from by decide, ← Nat.pow_add]; congr 1; omega
  rw [e, ← Nat.div_div_eq_div_mul, show (hi * 18446744073709551616 + lo) / 18446744073709551616 = hi from by omega]
theorem bit_lo {hi lo m : Nat} (hm : m < 64) : lo / 2 ^ m % 2 = bt (hi * 18446744073709551616 + lo) m := by
  unfold bt
  have e : (18446744073709551616 : Nat) = 2 ^ m * (2 * 2 ^ (63 - m)) := by
    rw [show 2 * 2 ^ (63 - m) = 2 ^ (64 - m) from by rw [show 64 - m = 63 - m + 1 from by omega, Nat.pow_succ, Nat.mul_comm], ← Nat.pow_add, show m + (64 - m) = 64 from by omega]
  have hp : 0 < 2 ^ m := Nat.pow_pos (by omega)
  have h2 : (hi * 18446744073709551616 + lo) / 2 ^ m = hi * (2 * 2 ^ (63 - m)) + lo / 2 ^ m := by
    have : hi * 18446744073709551616 + lo = 2 ^ m * (hi * (2 * 2 ^ (63 - m))) + lo := by
      rw [e, ← Nat.mul_assoc hi, Nat.mul_comm hi, Nat.mul_assoc]
    rw [this, Nat.mul_add_div hp]
  rw [h2, ← Nat.mul_assoc, Nat.mul_comm hi 2, Nat.mul_assoc]
  omega
theorem qv_le (N d m : Nat) : qv N d m ≤ N := by
  unfold qv
  exact Nat.le_trans (Nat.mul_le_mul_right _ (Nat.div_le_self _ _)) (Nat.div_mul_le_self _ _)
theorem or_pow {a i k : Nat} (h : a = 2 ^ (i + 1) * k) : a ||| 2 ^ i = a + 2 ^ i := by
  rw [h, Nat.two_pow_add_eq_or_of_lt (Nat.pow_lt_pow_right (by omega) (by omega))]
/-- a low bit is set -/
theorem set_lo {N d m : Nat} (hm : m < 64) : qv N d (m + 1) % 18446744073709551616 ||| 2 ^ m = (qv N d (m + 1) + 2 ^ m) % 18446744073709551616 ∧ qv N d (m + 1) / 18446744073709551616 = (qv N d (m + 1) + 2 ^ m) / 18446744073709551616 := by
  have e : (18446744073709551616 : Nat) = 2 ^ (m + 1) * 2 ^ (63 - m) := by
    rw [← Nat.pow_add, show m + 1 + (63 - m) = 64 from by omega]
  obtain ⟨Q, hQ⟩ : ∃ Q, qv N d (m + 1) = 2 ^ (m + 1) * Q := ⟨N / 2 ^ (m + 1) / d, by unfold qv; rw [Nat.mul_comm]⟩
  have hlow : qv N d (m + 1) % 18446744073709551616 = 2 ^ (m + 1) * (Q % 2 ^ (63 - m)) := by rw [hQ, e, Nat.mul_mod_mul_left]
  have hlt : Q % 2 ^ (63 - m) < 2 ^ (63 - m) := Nat.mod_lt _ (Nat.pow_pos (by omega))
  have hp : 0 < 2 ^ m := Nat.pow_pos (by omega)
  have hp1 : 2 ^ (m + 1) = 2 * 2 ^ m := by rw [Nat.pow_succ, Nat.mul_comm]
  have hs : 2 ^ (m + 1) * (Q % 2 ^ (63 - m)) + 2 ^ m < 18446744073709551616 := by
    have h1 : 2 ^ (m + 1) * (Q % 2 ^ (63 - m) + 1) ≤ 2 ^ (m + 1) * 2 ^ (63 - m) := Nat.mul_le_mul_left _ hlt
    rw [← e, Nat.mul_add, Nat.mul_one] at h1
    omega
  rw [or_pow hlow]
  generalize qv N d (m + 1) = q at *
  generalize 2 ^ (m + 1) * (Q % 2 ^ (63 - m)) = l at *
  generalize 2 ^ m = p at *
  omega
/-- a high bit is set -/
theorem set_hi {N d m : Nat} (hm : 64 ≤ m) : qv N d (m + 1) / 18446744073709551616 ||| 2 ^ (m - 64) = (qv N d (m + 1) + 2 ^ m) / 18446744073709551616 ∧ qv N d (m + 1) % 18446744073709551616 = (qv N d (m + 1) + 2 ^ m) % 18446744073709551616 := by
  have e : 2 ^ m = 18446744073709551616 * 2 ^ (m - 64) := by
    rw [show (18446744073709551616 : Nat) = 2 ^ 64 from by decide, ← Nat.pow_add]; congr 1; omega
  have e1 : 2 ^ (m + 1) = 18446744073709551616 * 2 ^ (m - 64 + 1) := by
    rw [show (18446744073709551616 : Nat) = 2 ^ 64 from by decide, ← Nat.pow_add]; congr 1; omega
  obtain ⟨Q, hQ⟩ : ∃ Q, qv N d (m + 1) = 18446744073709551616 * (2 ^ (m - 64 + 1) * Q) := ⟨N / 2 ^ (m + 1) / d, by unfold qv; rw [Nat.mul_comm, ← Nat.mul_assoc, ← e1]⟩
  have hh : qv N d (m + 1) / 18446744073709551616 = 2 ^ (m - 64 + 1) * Q := by rw [hQ]; exact Nat.mul_div_cancel_left _ (by omega)
  rw [or_pow hh, e]
  generalize qv N d (m + 1) = q at *
  generalize 2 ^ (m - 64) = p at *
  omega
/-- the rest, doubled -/
theorem dbl {r d b : Nat} (hr : r < d) (hd : d < 18446744073709551616) (hb : b ≤ 1) :
    ((r / 9223372036854775808 = 1 ∨ d ≤ 2 * r % 18446744073709551616 + b) ↔ d ≤ 2 * r + b) ∧ (2 * r + b < d → 2 * r % 18446744073709551616 + b = 2 * r + b) := by
  omega
theorem or_bit {r b : Nat} (hb : b ≤ 1) : (2 * r % 18446744073709551616) ||| b = 2 * r % 18446744073709551616 + b := by
  have h : 2 * r % 18446744073709551616 = 2 ^ 1 * (r % 9223372036854775808) := by omega
  rw [h, Nat.two_pow_add_eq_or_of_lt (i := 1) (by omega)]
theorem last (N d : Nat) : rv N d 0 = N % d ∧ qv N d 0 = N / d := by simp [rv, qv]
theorem first {N d : Nat} (hN : N < 340282366920938463463374607431768211456) (_hd : 0 < d) : rv N d 128 = 0 ∧ qv N d 128 = 0 := by
  have h : N / 2 ^ 128 = 0 := Nat.div_eq_of_lt (by simpa using hN)
  simp [rv, qv, h]
end Go.Proofs.YthjiobmglebmdaaGreatDoor.Dv
