/- Division of two words by one, half a word at a time: plain arithmetic. -/
import Derived.Test.YthjiobmglebmdaaGreatDoorPgBase
namespace Go.Proofs.YthjiobmglebmdaaGreatDoor.Kn

/-- the next digit: what the loop seeks -/
def dig (u Y d : Nat) : Nat := (u * 4294967296 + d) / Y
theorem dig_lt {u Y d : Nat} (hu : u < Y) (hd : d < 4294967296) : dig u Y d < 4294967296 := by
  unfold dig
  rw [Nat.div_lt_iff_lt_mul (by omega)]
  omega
/-- the test of the loop says whether the digit is too great -/
theorem dig_iff {u y1 y0 d q r : Nat} (hy : 0 < y1) (h : q * y1 + r = u) : 4294967296 * r + d < q * y0 ↔ dig u (y1 * 4294967296 + y0) d < q := by
  unfold dig
  rw [Nat.div_lt_iff_lt_mul (by omega), ← h, Nat.mul_add, Nat.add_mul, ← Nat.mul_assoc]
  omega
theorem dig_start {u y1 y0 d : Nat} (hy : 0 < y1) (hd : d < 4294967296) : dig u (y1 * 4294967296 + y0) d ≤ u / y1 := by
  unfold dig
  rw [Nat.le_div_iff_mul_le hy]
  have h1 := Nat.div_mul_le_self (u * 4294967296 + d) (y1 * 4294967296 + y0)
  generalize (u * 4294967296 + d) / (y1 * 4294967296 + y0) = q at *
  rw [Nat.mul_add, ← Nat.mul_assoc] at h1
  omega
/-- the first guess is not far off -/
theorem guess_le {u y1 y0 : Nat} (hy : 2147483648 ≤ y1) (h0 : y0 < 4294967296) (hu : u < y1 * 4294967296 + y0) : u / y1 ≤ 4294967297 := by
  refine Nat.le_of_lt_succ ?_
  rw [Nat.div_lt_iff_lt_mul (by omega)]
  omega
/-- the loop's state: the digit so far, and what is left beside it -/
structure St (u y1 y0 d q r : Nat) : Prop where
  eq : q * y1 + r = u
  le : dig u (y1 * 4294967296 + y0) d ≤ q
  top : q ≤ 4294967297
  low : r < 4294967296
theorem St.start {u y1 y0 d : Nat} (hy : 2147483648 ≤ y1) (h1 : y1 < 4294967296) (h0 : y0 < 4294967296) (hd : d < 4294967296) (hu : u < y1 * 4294967296 + y0) : St u y1 y0 d (u / y1) (u % y1) :=
  ⟨by have h := Nat.div_add_mod u y1; rwa [Nat.mul_comm] at h, dig_start (by omega) hd, guess_le hy h0 hu, by have := Nat.mod_lt u (show 0 < y1 by omega); omega⟩
theorem St.rle {u y1 y0 d q r : Nat} (h : St u y1 y0 d q r) : q * y1 ≤ u := by have := h.eq; omega
/-- great: one less -/
theorem big {u y1 y0 d q : Nat} (hd : d < 4294967296) (hu : u < y1 * 4294967296 + y0) (hq : 4294967296 ≤ q) : dig u (y1 * 4294967296 + y0) d < q := by
  have := dig_lt hu hd
  omega
theorem St.test {u y1 y0 d q r : Nat} (h : St u y1 y0 d q r) (hy : 0 < y1) : 4294967296 * r + d < q * y0 ↔ dig u (y1 * 4294967296 + y0) d < q := dig_iff hy h.eq
theorem St.done {u y1 y0 d q r : Nat} (h : St u y1 y0 d q r) (hy : 0 < y1) (ht : ¬ 4294967296 * r + d < q * y0) : q = dig u (y1 * 4294967296 + y0) d := by
  rw [h.test hy] at ht
  have := h.le
  omega
theorem St.eq' {u y1 y0 d q r : Nat} (h : St u y1 y0 d q r) (hq : 0 < q) : (q - 1) * y1 + (r + y1) = u := by
  have := h.eq
  obtain ⟨k, rfl⟩ : ∃ k, q = k + 1 := ⟨q - 1, by omega⟩
  rw [Nat.add_mul] at this
  simp only [Nat.add_sub_cancel]
  omega
theorem St.next {u y1 y0 d q r : Nat} (h : St u y1 y0 d q r) (ht : dig u (y1 * 4294967296 + y0) d < q) (hr : r + y1 < 4294967296) : St u y1 y0 d (q - 1) (r + y1) :=
  ⟨h.eq' (by omega), by omega, by have := h.top; omega, hr⟩
theorem St.last {u y1 y0 d q r : Nat} (h : St u y1 y0 d q r) (hy : 0 < y1) (h0 : y0 < 4294967296) (ht : dig u (y1 * 4294967296 + y0) d < q) (hr : 4294967296 ≤ r + y1) : q - 1 = dig u (y1 * 4294967296 + y0) d := by
  have h1 := (dig_iff (y0 := y0) (d := d) hy (h.eq' (by omega)))
  have h2 : ¬ 4294967296 * (r + y1) + d < (q - 1) * y0 := by
    have h3 : (q - 1) * y0 ≤ 4294967296 * 4294967296 := Nat.mul_le_mul (by have := h.top; omega) (by omega)
    omega
  rw [h1] at h2
  omega
theorem two' {Y d0 : Nat} (M B : Nat) (hY : 0 < Y) : M / Y * B + ((M % Y) * B + d0) / Y = (M * B + d0) / Y ∧ ((M % Y) * B + d0) % Y = (M * B + d0) % Y := by
  have h := Nat.div_add_mod M Y
  have e : M * B + d0 = (M % Y * B + d0) + Y * (M / Y * B) := by
    conv => lhs; rw [← h]
    rw [Nat.add_mul, Nat.mul_assoc]; omega
  rw [e, Nat.add_mul_div_left _ _ hY, Nat.add_mul_mod_self_left]
  exact ⟨by omega, rfl⟩
/-- both digits are the quotient, what is left is the rest -/
theorem two {u Y d1 d0 : Nat} (hY : 0 < Y) :
    dig u Y d1 * 4294967296 + dig ((u * 4294967296 + d1) % Y) Y d0 = ((u * 4294967296 + d1) * 4294967296 + d0) / Y ∧ (((u * 4294967296 + d1) % Y) * 4294967296 + d0) % Y = ((u * 4294967296 + d1) * 4294967296 + d0) % Y := by
  exact two' (u * 4294967296 + d1) 4294967296 hY
/-- the divisor's shift falls out -/
theorem shifted (N y k : Nat) (hk : 0 < k) : N * k / (y * k) = N / y ∧ N * k % (y * k) / k = N % y := by
  refine ⟨Nat.mul_div_mul_right _ _ hk, ?_⟩
  rw [Nat.mul_mod_mul_right, Nat.mul_div_cancel _ hk]
theorem top_word (hi lo s : Nat) (hs : s ≤ 64) : (hi * 18446744073709551616 + lo) * 2 ^ s = (hi * 2 ^ s + lo / 2 ^ (64 - s)) * 18446744073709551616 + lo * 2 ^ s % 18446744073709551616 := by
  have e : (18446744073709551616 : Nat) = 2 ^ s * 2 ^ (64 - s) := by rw [← Nat.pow_add, show s + (64 - s) = 64 by omega]
  have h := Nat.div_add_mod (lo * 2 ^ s) 18446744073709551616
  have h2 : lo * 2 ^ s / 18446744073709551616 = lo / 2 ^ (64 - s) := by
    rw [e, Nat.mul_comm lo, Nat.mul_div_mul_left _ _ (Nat.pow_pos (by decide))]
  rw [h2] at h
  rw [Nat.add_mul, Nat.add_mul]
  have : hi * 18446744073709551616 * 2 ^ s = hi * 2 ^ s * 18446744073709551616 := by rw [Nat.mul_assoc, Nat.mul_comm 18446744073709551616, ← Nat.mul_assoc]
  omega
end Go.Proofs.YthjiobmglebmdaaGreatDoor.Kn
