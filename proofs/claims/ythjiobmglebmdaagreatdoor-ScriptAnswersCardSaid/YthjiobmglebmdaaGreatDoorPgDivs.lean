/- math/bits.Div64: two words by one. math/bits.Div64 for every dividend that fits; numbers' numerals. -/
import Derived.Test.YthjiobmglebmdaaGreatDoorPgKn
import Derived.Test.YthjiobmglebmdaaGreatDoorPgScLib2
import Derived.Test.YthjiobmglebmdaaGreatDoorPgRfDiv
import Derived.Test.YthjiobmglebmdaaGreatDoorPgScStr
namespace Go.Proofs.YthjiobmglebmdaaGreatDoor
open Go.RowKit

open Go.Proofs.YthjiobmglebmdaaGreatDoor.Kn

theorem wrap_nat (x : Nat) : IntKind.u64.wrap (x : Int) = ((x % 18446744073709551616 : Nat) : Int) := by
  simp [IntKind.wrap, IntKind.bits, IntKind.signed]
theorem wrap_small {x : Nat} (h : x < 18446744073709551616) : IntKind.u64.wrap (x : Int) = (x : Int) := by rw [wrap_nat, Nat.mod_eq_of_lt h]
theorem shl_word (x s : Nat) : IntKind.u64.wrap ((x : Int) * 2 ^ s) = ((x * 2 ^ s % 18446744073709551616 : Nat) : Int) := by
  rw [show ((x : Int) * 2 ^ s) = ((x * 2 ^ s : Nat) : Int) from by simp, wrap_nat]
theorem half_word {x : Nat} (h : x < 18446744073709551616) : bits .and .u64 (x : Int) 4294967295 = ((x % 4294967296 : Nat) : Int) := by
  rw [show (4294967295 : Int) = ((4294967295 : Nat) : Int) from rfl, u64_and_nat x 4294967295 h (by omega), show 4294967295 = 2 ^ 32 - 1 from rfl, Nat.and_two_pow_sub_one_eq_mod]
theorem or_words {a b s : Nat} (hs : s ≤ 63) (ha : a * 2 ^ s < 18446744073709551616) (hb : b < 18446744073709551616) :
    bits .or .u64 (IntKind.u64.wrap ((a : Int) * 2 ^ s)) ((b : Int) / 2 ^ (64 - s)) = ((a * 2 ^ s + b / 2 ^ (64 - s) : Nat) : Int) := by
  rw [shl_word, Nat.mod_eq_of_lt ha, show ((b : Int) / 2 ^ (64 - s)) = ((b / 2 ^ (64 - s) : Nat) : Int) from by simp, bits_or_u64_nat _ _ ha (Nat.lt_of_le_of_lt (Nat.div_le_self _ _) hb)]
  have hq : b / 2 ^ (64 - s) < 2 ^ s := by
    rw [Nat.div_lt_iff_lt_mul (Nat.pow_pos (by decide)), ← Nat.pow_add, show s + (64 - s) = 64 by omega]
    exact hb
  rw [Nat.mul_comm a, Nat.two_pow_add_eq_or_of_lt hq]
theorem sub_mul_word {u q y r : Nat} (h : q * y + r = u) (hu : u < 18446744073709551616) : IntKind.u64.wrap ((u : Int) - IntKind.u64.wrap ((q : Int) * (y : Int))) = (r : Int) := by
  have e : ((q : Int) * (y : Int)) = ((q * y : Nat) : Int) := by simp
  rw [e, wrap_small (by omega)]
  have : ((u : Int) - ((q * y : Nat) : Int)) = (r : Int) := by omega
  rw [this, wrap_small (by omega)]
theorem mod_word {u d a Y : Nat} (ha : a = dig u Y d) (h0 : 0 < Y) (hY : Y < 18446744073709551616) :
    IntKind.u64.wrap (IntKind.u64.wrap (IntKind.u64.wrap ((u : Int) * 4294967296) + (d : Int)) - IntKind.u64.wrap ((a : Int) * (Y : Int))) = (((u * 4294967296 + d) % Y : Nat) : Int) := by
  have h := Nat.div_add_mod (u * 4294967296 + d) Y
  have hr := Nat.mod_lt (u * 4294967296 + d) h0
  unfold dig at ha
  rw [← ha, Nat.mul_comm] at h
  rw [show ((a : Int) * (Y : Int)) = ((a * Y : Nat) : Int) from by simp]
  generalize a * Y = P at *
  generalize (u * 4294967296 + d) % Y = r at *
  simp only [IntKind.wrap, IntKind.bits, IntKind.signed]
  simp
  omega
set_option maxRecDepth 100000 in
set_option maxHeartbeats 4000000 in
theorem bits_Div64 (w : World) (hi lo y s Y : Nat) (hh : hi < y) (hl : lo < 18446744073709551616) (_hy : y < 18446744073709551616) (h0 : 0 < hi)
   (HZ : ∀ wx : World, Calls Tryz.prog 109 #[.int .u64 y] wx fun e w' => e = .returned (.int .i64 s) ∧ wx = w') (hs : s ≤ 63) (hY : y * 2 ^ s = Y) (hY1 : 9223372036854775808 ≤ Y) (hY2 : Y < 18446744073709551616) :
    Calls Tryz.prog 83 #[.int .u64 hi, .int .u64 lo, .int .u64 y] w fun e w' => e = .returned (.tuple #[.int .u64 ((hi * 18446744073709551616 + lo) / y : Nat), .int .u64 ((hi * 18446744073709551616 + lo) % y : Nat)]) ∧ Kept Nob w w' := by
  have HZ' := fun wx => Lib.hid (HZ wx)
  have hpos : 0 < 2 ^ s := Nat.pow_pos (by decide)
  have hhs : hi * 2 ^ s + 2 ^ s ≤ Y := by
    have := Nat.mul_le_mul_right (2 ^ s) hh
    rw [Nat.succ_mul] at this
    omega
  have hlq : lo / 2 ^ (64 - s) < 2 ^ s := by
    rw [Nat.div_lt_iff_lt_mul (Nat.pow_pos (by decide)), ← Nat.pow_add, show s + (64 - s) = 64 by omega]
    exact hl
  obtain ⟨u, hu⟩ : ∃ u, hi * 2 ^ s + lo / 2 ^ (64 - s) = u := ⟨_, rfl⟩
  obtain ⟨L, hL⟩ : ∃ L, lo * 2 ^ s % 18446744073709551616 = L := ⟨_, rfl⟩
  have huY : u < Y := by omega
  have EY := Lib.hid (show IntKind.u64.wrap ((y : Int) * 2 ^ s) = (Y : Int) by rw [shl_word, hY, Nat.mod_eq_of_lt hY2])
  have EU := Lib.hid (or_words (a := hi) (b := lo) (s := s) hs (by omega) hl)
  have EL := Lib.hid (shl_word lo s)
  rw [hu] at EU
  rw [hL] at EL
  have hLl : L < 18446744073709551616 := by omega
  obtain ⟨y1, hy1⟩ : ∃ k, Y / 4294967296 = k := ⟨_, rfl⟩
  obtain ⟨y0, hy0⟩ : ∃ k, Y % 4294967296 = k := ⟨_, rfl⟩
  obtain ⟨d1, hd1⟩ : ∃ k, L / 4294967296 = k := ⟨_, rfl⟩
  obtain ⟨d0, hd0⟩ : ∃ k, L % 4294967296 = k := ⟨_, rfl⟩
  have E1 := Lib.hid (show (Y : Int) / 4294967296 = (y1 : Int) by omega)
  have E0 := Lib.hid (half_word hY2)
  have F1 := Lib.hid (show (L : Int) / 4294967296 = (d1 : Int) by omega)
  have F0 := Lib.hid (half_word hLl)
  rw [hy0] at E0
  rw [hd0] at F0
  have hYs : Y = y1 * 4294967296 + y0 := by omega
  have b1 : 2147483648 ≤ y1 := by omega
  have b2 : y1 < 4294967296 := by omega
  have b3 : y0 < 4294967296 := by omega
  have b4 : d1 < 4294967296 := by omega
  have b5 : d0 < 4294967296 := by omega
  -- what comes out
  have HT := top_word hi lo s (by omega)
  rw [hu, hL, show L = d1 * 4294967296 + d0 by omega] at HT
  have HSh := shifted (hi * 18446744073709551616 + lo) y (2 ^ s) hpos
  rw [HT, hY, show u * 18446744073709551616 + (d1 * 4294967296 + d0) = (u * 4294967296 + d1) * 4294967296 + d0 by omega] at HSh
  have H2 := two (u := u) (d1 := d1) (d0 := d0) (show 0 < Y by omega)
  have HFin : Hid _ := Lib.hid (And.intro HSh H2)
  have HYs := Lib.hid hYs
  clear hYs HSh H2 HT hu hL hy1 hy0 hd1 hd0 hhs hlq hY HZ
  have hyi : ¬ y ≤ hi := by omega
  go_enter Tryz.func83, Tryz.ntmps83
  go_upto_region 9 with (refine (HZ' _).out.mono ?_; rintro e w' ⟨rfl, rfl⟩)
  rw [EY.out]
  go_upto_region 15 with fail
  rw [E1.out, E0.out, EU.out, EL.out, F1.out, F0.out]
  go_upto_region 17 with fail
  have HSt1 := Lib.hid (St.start (u := u) (d := d1) b1 b2 b3 b4 (by rw [← HYs.out]; exact huY))
  have EQ1 := Lib.hid (show IntKind.u64.wrap ((u : Int) / (y1 : Int)) = ((u / y1 : Nat) : Int) by rw [show ((u : Int) / (y1 : Int)) = ((u / y1 : Nat) : Int) from by simp, wrap_small (Nat.lt_of_le_of_lt (Nat.div_le_self _ _) (by omega))])
  have ER1 := Lib.hid (sub_mul_word HSt1.out.eq (by omega))
  rw [EQ1.out, ER1.out]
  go_loopw [15, 16] (fun q r wr => ∃ a b : Nat, q = .int .u64 a ∧ r = .int .u64 b ∧ St u y1 y0 d1 a b ∧ w = wr) (fun q _ _ => (intOf q).toNat)
  case atStart => exact ⟨_, _, rfl, rfl, HSt1.out, rfl⟩
  case round =>
    obtain ⟨a, b, rfl, rfl, hst, rfl⟩ := hrel
    have HS1 := Lib.hid hst
    clear hst
    have HM1 : Hid (a < 4294967296 → IntKind.u64.wrap ((a : Int) * (y0 : Int)) = ((a * y0 : Nat) : Int)) := Lib.hid (fun h => by
      rw [show ((a : Int) * (y0 : Int)) = ((a * y0 : Nat) : Int) from by simp, wrap_small]
      have := Nat.mul_le_mul (Nat.le_of_lt_succ h : a ≤ 4294967295) (show y0 ≤ 4294967295 by omega)
      omega)
    have HR1 : Hid (IntKind.u64.wrap (IntKind.u64.wrap (4294967296 * (b : Int)) + (d1 : Int)) = ((4294967296 * b + d1 : Nat) : Int)) := Lib.hid (by
      have := HS1.out.low
      rw [show (4294967296 * (b : Int)) = ((4294967296 * b : Nat) : Int) from by simp, wrap_small (by omega), ← Int.natCast_add, wrap_small (by omega)])
    by_cases hbig : (4294967296 : Int) ≤ (a : Int)
    · have HT1 : Hid (dig u (y1 * 4294967296 + y0) d1 < a) := Lib.hid (big b4 (by rw [← HYs.out]; exact huY) (by omega))
      have hdb : decide ((4294967296 : Int) ≤ (a : Int)) = true := decide_eq_true hbig
      clear hbig
      obtain ⟨c, hc⟩ : ∃ c, a - 1 = c := ⟨_, rfl⟩
      obtain ⟨e, he⟩ : ∃ e, b + y1 = e := ⟨_, rfl⟩
      have HA1 : Hid (IntKind.u64.wrap ((a : Int) - 1) = (c : Int)) := Lib.hid (by
        have := HS1.out.top
        have := HT1.out
        rw [show ((a : Int) - 1) = (c : Int) by omega, wrap_small (by omega)])
      have HB1 : Hid (IntKind.u64.wrap ((b : Int) + (y1 : Int)) = (e : Int)) := Lib.hid (by
        have := HS1.out.low
        rw [← Int.natCast_add, he, wrap_small (by omega)])
      have HC1 := Lib.hid hc
      have HE1 := Lib.hid he
      clear hc he
      go_upto_region 18 with fail
      go_upto_region 19 with fail
      go_upto_region 20 with fail
      rw [HA1.out, HB1.out]
      by_cases hr : (4294967296 : Int) ≤ (e : Int)
      · have hdr : decide ((4294967296 : Int) ≤ (e : Int)) = true := decide_eq_true hr
        have HD1 : Hid (c = dig u Y d1) := Lib.hid (by
          have h := HS1.out.last (by omega) b3 HT1.out (by have := HE1.out; omega)
          rw [HYs.out, ← h]; exact HC1.out.symm)
        clear hr
        have HG : Hid (c = dig u Y d1) := HD1
        obtain ⟨r1, hr1⟩ : ∃ r, (u * 4294967296 + d1) % Y = r := ⟨_, rfl⟩
        have hrY : r1 < Y := by rw [← hr1]; exact Nat.mod_lt _ (by omega)
        have Hr1 := Lib.hid hr1
        have HrY := Lib.hid hrY
        have HW1 : Hid (IntKind.u64.wrap (IntKind.u64.wrap (IntKind.u64.wrap ((u : Int) * 4294967296) + (d1 : Int)) - IntKind.u64.wrap ((c : Int) * (Y : Int))) = (r1 : Int)) := Lib.hid (by rw [mod_word HG.out (by omega) hY2, hr1])
        clear hr1
        go_upto_region 22 with fail
        rw [HW1.out]
        go_upto_region 24 with fail
        have HSt2 := Lib.hid (St.start (u := r1) (d := d0) b1 b2 b3 b5 (by rw [← HYs.out]; exact hrY))
        have EQ2 := Lib.hid (show IntKind.u64.wrap ((r1 : Int) / (y1 : Int)) = ((r1 / y1 : Nat) : Int) by rw [show ((r1 : Int) / (y1 : Int)) = ((r1 / y1 : Nat) : Int) from by simp, wrap_small (Nat.lt_of_le_of_lt (Nat.div_le_self _ _) (by omega))])
        have ER2 := Lib.hid (sub_mul_word HSt2.out.eq (by omega))
        rw [EQ2.out, ER2.out]
        go_loopw [16, 18] (fun r q wr => ∃ fa fb : Nat, q = .int .u64 fa ∧ r = .int .u64 fb ∧ St r1 y1 y0 d0 fa fb ∧ w = wr) (fun _ q _ => (intOf q).toNat)
        case atStart => exact ⟨_, _, rfl, rfl, HSt2.out, rfl⟩
        case round =>
          obtain ⟨fa, fb, rfl, rfl, hst, rfl⟩ := hrel
          have HS2 := Lib.hid hst
          clear hst
          have HM2 : Hid (fa < 4294967296 → IntKind.u64.wrap ((fa : Int) * (y0 : Int)) = ((fa * y0 : Nat) : Int)) := Lib.hid (fun h => by
            rw [show ((fa : Int) * (y0 : Int)) = ((fa * y0 : Nat) : Int) from by simp, wrap_small]
            have := Nat.mul_le_mul (Nat.le_of_lt_succ h : fa ≤ 4294967295) (show y0 ≤ 4294967295 by omega)
            omega)
          have HR2 : Hid (IntKind.u64.wrap (IntKind.u64.wrap (4294967296 * (fb : Int)) + (d0 : Int)) = ((4294967296 * fb + d0 : Nat) : Int)) := Lib.hid (by
            have := HS2.out.low
            rw [show (4294967296 * (fb : Int)) = ((4294967296 * fb : Nat) : Int) from by simp, wrap_small (by omega), ← Int.natCast_add, wrap_small (by omega)])
          by_cases hbig : (4294967296 : Int) ≤ (fa : Int)
          · have HT2 : Hid (dig r1 (y1 * 4294967296 + y0) d0 < fa) := Lib.hid (big b5 (by rw [← HYs.out]; exact hrY) (by omega))
            have hdb : decide ((4294967296 : Int) ≤ (fa : Int)) = true := decide_eq_true hbig
            clear hbig
            obtain ⟨fc, hc⟩ : ∃ fc, fa - 1 = fc := ⟨_, rfl⟩
            obtain ⟨fe, he⟩ : ∃ fe, fb + y1 = fe := ⟨_, rfl⟩
            have HA2 : Hid (IntKind.u64.wrap ((fa : Int) - 1) = (fc : Int)) := Lib.hid (by
              have := HS2.out.top
              have := HT2.out
              rw [show ((fa : Int) - 1) = (fc : Int) by omega, wrap_small (by omega)])
            have HB2 : Hid (IntKind.u64.wrap ((fb : Int) + (y1 : Int)) = (fe : Int)) := Lib.hid (by
              have := HS2.out.low
              rw [← Int.natCast_add, he, wrap_small (by omega)])
            have HC2 := Lib.hid hc
            have HE2 := Lib.hid he
            clear hc he
            go_upto_region 25 with fail
            go_upto_region 26 with fail
            go_upto_region 27 with fail
            rw [HA2.out, HB2.out]
            by_cases hr : (4294967296 : Int) ≤ (fe : Int)
            · have hdr : decide ((4294967296 : Int) ≤ (fe : Int)) = true := decide_eq_true hr
              have HD2 : Hid (fc = dig r1 Y d0) := Lib.hid (by
                have h := HS2.out.last (by omega) b3 HT2.out (by have := HE2.out; omega)
                rw [HYs.out, ← h]; exact HC2.out.symm)
              clear hr
              have HV1 : Hid (IntKind.u64.wrap (IntKind.u64.wrap ((c : Int) * 4294967296) + (fc : Int)) = (((hi * 18446744073709551616 + lo) / y : Nat) : Int)) := Lib.hid (by
                have h1 := dig_lt huY b4
                have h2 := dig_lt (u := r1) (d := d0) HrY.out b5
                rw [← HG.out] at h1
                rw [← HD2.out] at h2
                have hf := HFin.out
                rw [Hr1.out, ← HD2.out, ← HG.out] at hf
                rw [show ((c : Int) * 4294967296) = ((c * 4294967296 : Nat) : Int) from by simp, wrap_small (by omega), ← Int.natCast_add, wrap_small (by omega), hf.2.1, hf.1.1])
              have HV2 : Hid (IntKind.u64.wrap (IntKind.u64.wrap (IntKind.u64.wrap ((r1 : Int) * 4294967296) + (d0 : Int)) - IntKind.u64.wrap ((fc : Int) * (Y : Int))) / 2 ^ s = (((hi * 18446744073709551616 + lo) % y : Nat) : Int)) := Lib.hid (by
                have hf := HFin.out
                rw [Hr1.out] at hf
                rw [mod_word HD2.out (by omega) hY2, ← hf.1.2, hf.2.2.symm]
                simp)
              go_wp2_with fail
              rw [HV1.out, HV2.out]
              go_ret2
              exact ⟨rfl, Kept.refl _ _⟩
            · have hdr : decide ((4294967296 : Int) ≤ (fe : Int)) = false := decide_eq_false hr
              have hN : St r1 y1 y0 d0 fc fe := by
                have h := HS2.out.next HT2.out (by have := HE2.out; omega)
                rwa [HC2.out, HE2.out] at h
              have HN2 := Lib.hid hN
              have HL2 : Hid (fc < fa) := Lib.hid (by have := HT2.out; have := HC2.out; omega)
              clear hN hr
              go_wp2_with fail
              exact ⟨⟨fc, fe, rfl, rfl, HN2.out, by first | rfl | trivial⟩, by simp only [intOf]; have := HL2.out; omega⟩
          · have hal : fa < 4294967296 := by omega
            have hdb : decide ((4294967296 : Int) ≤ (fa : Int)) = false := decide_eq_false hbig
            have HMa := Lib.hid (HM2.out hal)
            clear hbig hal
            by_cases ht : 4294967296 * fb + d0 < fa * y0
            · have HT2 : Hid (dig r1 (y1 * 4294967296 + y0) d0 < fa) := Lib.hid ((HS2.out.test (by omega)).1 ht)
              have hdt : decide (IntKind.u64.wrap (IntKind.u64.wrap (4294967296 * (fb : Int)) + (d0 : Int)) < IntKind.u64.wrap ((fa : Int) * (y0 : Int))) = true := decide_eq_true (by rw [HMa.out, HR2.out]; exact Int.ofNat_lt.2 ht)
              clear ht
              obtain ⟨fc, hc⟩ : ∃ fc, fa - 1 = fc := ⟨_, rfl⟩
              obtain ⟨fe, he⟩ : ∃ fe, fb + y1 = fe := ⟨_, rfl⟩
              have HA2 : Hid (IntKind.u64.wrap ((fa : Int) - 1) = (fc : Int)) := Lib.hid (by
                have := HS2.out.top
                have := HT2.out
                rw [show ((fa : Int) - 1) = (fc : Int) by omega, wrap_small (by omega)])
              have HB2 : Hid (IntKind.u64.wrap ((fb : Int) + (y1 : Int)) = (fe : Int)) := Lib.hid (by
                have := HS2.out.low
                rw [← Int.natCast_add, he, wrap_small (by omega)])
              have HC2 := Lib.hid hc
              have HE2 := Lib.hid he
              clear hc he
              go_upto_region 25 with fail
              go_upto_region 26 with fail
              go_upto_region 27 with fail
              rw [HA2.out, HB2.out]
              by_cases hr : (4294967296 : Int) ≤ (fe : Int)
              · have hdr : decide ((4294967296 : Int) ≤ (fe : Int)) = true := decide_eq_true hr
                have HD2 : Hid (fc = dig r1 Y d0) := Lib.hid (by
                  have h := HS2.out.last (by omega) b3 HT2.out (by have := HE2.out; omega)
                  rw [HYs.out, ← h]; exact HC2.out.symm)
                clear hr
                have HV1 : Hid (IntKind.u64.wrap (IntKind.u64.wrap ((c : Int) * 4294967296) + (fc : Int)) = (((hi * 18446744073709551616 + lo) / y : Nat) : Int)) := Lib.hid (by
                  have h1 := dig_lt huY b4
                  have h2 := dig_lt (u := r1) (d := d0) HrY.out b5
                  rw [← HG.out] at h1
                  rw [← HD2.out] at h2
                  have hf := HFin.out
                  rw [Hr1.out, ← HD2.out, ← HG.out] at hf
                  rw [show ((c : Int) * 4294967296) = ((c * 4294967296 : Nat) : Int) from by simp, wrap_small (by omega), ← Int.natCast_add, wrap_small (by omega), hf.2.1, hf.1.1])
                have HV2 : Hid (IntKind.u64.wrap (IntKind.u64.wrap (IntKind.u64.wrap ((r1 : Int) * 4294967296) + (d0 : Int)) - IntKind.u64.wrap ((fc : Int) * (Y : Int))) / 2 ^ s = (((hi * 18446744073709551616 + lo) % y : Nat) : Int)) := Lib.hid (by
                  have hf := HFin.out
                  rw [Hr1.out] at hf
                  rw [mod_word HD2.out (by omega) hY2, ← hf.1.2, hf.2.2.symm]
                  simp)
                go_wp2_with fail
                rw [HV1.out, HV2.out]
                go_ret2
                exact ⟨rfl, Kept.refl _ _⟩
              · have hdr : decide ((4294967296 : Int) ≤ (fe : Int)) = false := decide_eq_false hr
                have hN : St r1 y1 y0 d0 fc fe := by
                  have h := HS2.out.next HT2.out (by have := HE2.out; omega)
                  rwa [HC2.out, HE2.out] at h
                have HN2 := Lib.hid hN
                have HL2 : Hid (fc < fa) := Lib.hid (by have := HT2.out; have := HC2.out; omega)
                clear hN hr
                go_wp2_with fail
                exact ⟨⟨fc, fe, rfl, rfl, HN2.out, by first | rfl | trivial⟩, by simp only [intOf]; have := HL2.out; omega⟩
            · have hdt : decide (IntKind.u64.wrap (IntKind.u64.wrap (4294967296 * (fb : Int)) + (d0 : Int)) < IntKind.u64.wrap ((fa : Int) * (y0 : Int))) = false := decide_eq_false (by rw [HMa.out, HR2.out]; exact fun h => ht (Int.ofNat_lt.1 h))
              have HD2 : Hid (fa = dig r1 Y d0) := Lib.hid (by
                have h := HS2.out.done (by omega) ht
                rw [HYs.out]; exact h)
              clear ht
              have HV1 : Hid (IntKind.u64.wrap (IntKind.u64.wrap ((c : Int) * 4294967296) + (fa : Int)) = (((hi * 18446744073709551616 + lo) / y : Nat) : Int)) := Lib.hid (by
                have h1 := dig_lt huY b4
                have h2 := dig_lt (u := r1) (d := d0) HrY.out b5
                rw [← HG.out] at h1
                rw [← HD2.out] at h2
                have hf := HFin.out
                rw [Hr1.out, ← HD2.out, ← HG.out] at hf
                rw [show ((c : Int) * 4294967296) = ((c * 4294967296 : Nat) : Int) from by simp, wrap_small (by omega), ← Int.natCast_add, wrap_small (by omega), hf.2.1, hf.1.1])
              have HV2 : Hid (IntKind.u64.wrap (IntKind.u64.wrap (IntKind.u64.wrap ((r1 : Int) * 4294967296) + (d0 : Int)) - IntKind.u64.wrap ((fa : Int) * (Y : Int))) / 2 ^ s = (((hi * 18446744073709551616 + lo) % y : Nat) : Int)) := Lib.hid (by
                have hf := HFin.out
                rw [Hr1.out] at hf
                rw [mod_word HD2.out (by omega) hY2, ← hf.1.2, hf.2.2.symm]
                simp)
              go_wp2_with fail
              rw [HV1.out, HV2.out]
              go_ret2
              exact ⟨rfl, Kept.refl _ _⟩
      · have hdr : decide ((4294967296 : Int) ≤ (e : Int)) = false := decide_eq_false hr
        have hN : St u y1 y0 d1 c e := by
          have h := HS1.out.next HT1.out (by have := HE1.out; omega)
          rwa [HC1.out, HE1.out] at h
        have HN1 := Lib.hid hN
        have HL1 : Hid (c < a) := Lib.hid (by have := HT1.out; have := HC1.out; omega)
        clear hN hr
        go_wp2_with fail
        exact ⟨⟨c, e, rfl, rfl, HN1.out, by first | rfl | trivial⟩, by simp only [intOf]; have := HL1.out; omega⟩
    · have hal : a < 4294967296 := by omega
      have hdb : decide ((4294967296 : Int) ≤ (a : Int)) = false := decide_eq_false hbig
      have HMa := Lib.hid (HM1.out hal)
      clear hbig hal
      by_cases ht : 4294967296 * b + d1 < a * y0
      · have HT1 : Hid (dig u (y1 * 4294967296 + y0) d1 < a) := Lib.hid ((HS1.out.test (by omega)).1 ht)
        have hdt : decide (IntKind.u64.wrap (IntKind.u64.wrap (4294967296 * (b : Int)) + (d1 : Int)) < IntKind.u64.wrap ((a : Int) * (y0 : Int))) = true := decide_eq_true (by rw [HMa.out, HR1.out]; exact Int.ofNat_lt.2 ht)
        clear ht
        obtain ⟨c, hc⟩ : ∃ c, a - 1 = c := ⟨_, rfl⟩
        obtain ⟨e, he⟩ : ∃ e, b + y1 = e := ⟨_, rfl⟩
        have HA1 : Hid (IntKind.u64.wrap ((a : Int) - 1) = (c : Int)) := Lib.hid (by
          have := HS1.out.top
          have := HT1.out
          rw [show ((a : Int) - 1) = (c : Int) by omega, wrap_small (by omega)])
        have HB1 : Hid (IntKind.u64.wrap ((b : Int) + (y1 : Int)) = (e : Int)) := Lib.hid (by
          have := HS1.out.low
          rw [← Int.natCast_add, he, wrap_small (by omega)])
        have HC1 := Lib.hid hc
        have HE1 := Lib.hid he
        clear hc he
        go_upto_region 18 with fail
        go_upto_region 19 with fail
        go_upto_region 20 with fail
        rw [HA1.out, HB1.out]
        by_cases hr : (4294967296 : Int) ≤ (e : Int)
        · have hdr : decide ((4294967296 : Int) ≤ (e : Int)) = true := decide_eq_true hr
          have HD1 : Hid (c = dig u Y d1) := Lib.hid (by
            have h := HS1.out.last (by omega) b3 HT1.out (by have := HE1.out; omega)
            rw [HYs.out, ← h]; exact HC1.out.symm)
          clear hr
          have HG : Hid (c = dig u Y d1) := HD1
          obtain ⟨r1, hr1⟩ : ∃ r, (u * 4294967296 + d1) % Y = r := ⟨_, rfl⟩
          have hrY : r1 < Y := by rw [← hr1]; exact Nat.mod_lt _ (by omega)
          have Hr1 := Lib.hid hr1
          have HrY := Lib.hid hrY
          have HW1 : Hid (IntKind.u64.wrap (IntKind.u64.wrap (IntKind.u64.wrap ((u : Int) * 4294967296) + (d1 : Int)) - IntKind.u64.wrap ((c : Int) * (Y : Int))) = (r1 : Int)) := Lib.hid (by rw [mod_word HG.out (by omega) hY2, hr1])
          clear hr1
          go_upto_region 22 with fail
          rw [HW1.out]
          go_upto_region 24 with fail
          have HSt2 := Lib.hid (St.start (u := r1) (d := d0) b1 b2 b3 b5 (by rw [← HYs.out]; exact hrY))
          have EQ2 := Lib.hid (show IntKind.u64.wrap ((r1 : Int) / (y1 : Int)) = ((r1 / y1 : Nat) : Int) by rw [show ((r1 : Int) / (y1 : Int)) = ((r1 / y1 : Nat) : Int) from by simp, wrap_small (Nat.lt_of_le_of_lt (Nat.div_le_self _ _) (by omega))])
          have ER2 := Lib.hid (sub_mul_word HSt2.out.eq (by omega))
          rw [EQ2.out, ER2.out]
          go_loopw [16, 18] (fun r q wr => ∃ fa fb : Nat, q = .int .u64 fa ∧ r = .int .u64 fb ∧ St r1 y1 y0 d0 fa fb ∧ w = wr) (fun _ q _ => (intOf q).toNat)
          case atStart => exact ⟨_, _, rfl, rfl, HSt2.out, rfl⟩
          case round =>
            obtain ⟨fa, fb, rfl, rfl, hst, rfl⟩ := hrel
            have HS2 := Lib.hid hst
            clear hst
            have HM2 : Hid (fa < 4294967296 → IntKind.u64.wrap ((fa : Int) * (y0 : Int)) = ((fa * y0 : Nat) : Int)) := Lib.hid (fun h => by
              rw [show ((fa : Int) * (y0 : Int)) = ((fa * y0 : Nat) : Int) from by simp, wrap_small]
              have := Nat.mul_le_mul (Nat.le_of_lt_succ h : fa ≤ 4294967295) (show y0 ≤ 4294967295 by omega)
              omega)
            have HR2 : Hid (IntKind.u64.wrap (IntKind.u64.wrap (4294967296 * (fb : Int)) + (d0 : Int)) = ((4294967296 * fb + d0 : Nat) : Int)) := Lib.hid (by
              have := HS2.out.low
              rw [show (4294967296 * (fb : Int)) = ((4294967296 * fb : Nat) : Int) from by simp, wrap_small (by omega), ← Int.natCast_add, wrap_small (by omega)])
            by_cases hbig : (4294967296 : Int) ≤ (fa : Int)
            · have HT2 : Hid (dig r1 (y1 * 4294967296 + y0) d0 < fa) := Lib.hid (big b5 (by rw [← HYs.out]; exact hrY) (by omega))
              have hdb : decide ((4294967296 : Int) ≤ (fa : Int)) = true := decide_eq_true hbig
              clear hbig
              obtain ⟨fc, hc⟩ : ∃ fc, fa - 1 = fc := ⟨_, rfl⟩
              obtain ⟨fe, he⟩ : ∃ fe, fb + y1 = fe := ⟨_, rfl⟩
              have HA2 : Hid (IntKind.u64.wrap ((fa : Int) - 1) = (fc : Int)) := Lib.hid (by
                have := HS2.out.top
                have := HT2.out
                rw [show ((fa : Int) - 1) = (fc : Int) by omega, wrap_small (by omega)])
              have HB2 : Hid (IntKind.u64.wrap ((fb : Int) + (y1 : Int)) = (fe : Int)) := Lib.hid (by
                have := HS2.out.low
                rw [← Int.natCast_add, he, wrap_small (by omega)])
              have HC2 := Lib.hid hc
              have HE2 := Lib.hid he
              clear hc he
              go_upto_region 25 with fail
              go_upto_region 26 with fail
              go_upto_region 27 with fail
              rw [HA2.out, HB2.out]
              by_cases hr : (4294967296 : Int) ≤ (fe : Int)
              · have hdr : decide ((4294967296 : Int) ≤ (fe : Int)) = true := decide_eq_true hr
                have HD2 : Hid (fc = dig r1 Y d0) := Lib.hid (by
                  have h := HS2.out.last (by omega) b3 HT2.out (by have := HE2.out; omega)
                  rw [HYs.out, ← h]; exact HC2.out.symm)
                clear hr
                have HV1 : Hid (IntKind.u64.wrap (IntKind.u64.wrap ((c : Int) * 4294967296) + (fc : Int)) = (((hi * 18446744073709551616 + lo) / y : Nat) : Int)) := Lib.hid (by
                  have h1 := dig_lt huY b4
                  have h2 := dig_lt (u := r1) (d := d0) HrY.out b5
                  rw [← HG.out] at h1
                  rw [← HD2.out] at h2
                  have hf := HFin.out
                  rw [Hr1.out, ← HD2.out, ← HG.out] at hf
                  rw [show ((c : Int) * 4294967296) = ((c * 4294967296 : Nat) : Int) from by simp, wrap_small (by omega), ← Int.natCast_add, wrap_small (by omega), hf.2.1, hf.1.1])
                have HV2 : Hid (IntKind.u64.wrap (IntKind.u64.wrap (IntKind.u64.wrap ((r1 : Int) * 4294967296) + (d0 : Int)) - IntKind.u64.wrap ((fc : Int) * (Y : Int))) / 2 ^ s = (((hi * 18446744073709551616 + lo) % y : Nat) : Int)) := Lib.hid (by
                  have hf := HFin.out
                  rw [Hr1.out] at hf
                  rw [mod_word HD2.out (by omega) hY2, ← hf.1.2, hf.2.2.symm]
                  simp)
                go_wp2_with fail
                rw [HV1.out, HV2.out]
                go_ret2
                exact ⟨rfl, Kept.refl _ _⟩
              · have hdr : decide ((4294967296 : Int) ≤ (fe : Int)) = false := decide_eq_false hr
                have hN : St r1 y1 y0 d0 fc fe := by
                  have h := HS2.out.next HT2.out (by have := HE2.out; omega)
                  rwa [HC2.out, HE2.out] at h
                have HN2 := Lib.hid hN
                have HL2 : Hid (fc < fa) := Lib.hid (by have := HT2.out; have := HC2.out; omega)
                clear hN hr
                go_wp2_with fail
                exact ⟨⟨fc, fe, rfl, rfl, HN2.out, by first | rfl | trivial⟩, by simp only [intOf]; have := HL2.out; omega⟩
            · have hal : fa < 4294967296 := by omega
              have hdb : decide ((4294967296 : Int) ≤ (fa : Int)) = false := decide_eq_false hbig
              have HMa := Lib.hid (HM2.out hal)
              clear hbig hal
              by_cases ht : 4294967296 * fb + d0 < fa * y0
              · have HT2 : Hid (dig r1 (y1 * 4294967296 + y0) d0 < fa) := Lib.hid ((HS2.out.test (by omega)).1 ht)
                have hdt : decide (IntKind.u64.wrap (IntKind.u64.wrap (4294967296 * (fb : Int)) + (d0 : Int)) < IntKind.u64.wrap ((fa : Int) * (y0 : Int))) = true := decide_eq_true (by rw [HMa.out, HR2.out]; exact Int.ofNat_lt.2 ht)
                clear ht
                obtain ⟨fc, hc⟩ : ∃ fc, fa - 1 = fc := ⟨_, rfl⟩
                obtain ⟨fe, he⟩ : ∃ fe, fb + y1 = fe := ⟨_, rfl⟩
                have HA2 : Hid (IntKind.u64.wrap ((fa : Int) - 1) = (fc : Int)) := Lib.hid (by
                  have := HS2.out.top
                  have := HT2.out
                  rw [show ((fa : Int) - 1) = (fc : Int) by omega, wrap_small (by omega)])
                have HB2 : Hid (IntKind.u64.wrap ((fb : Int) + (y1 : Int)) = (fe : Int)) := Lib.hid (by
                  have := HS2.out.low
                  rw [← Int.natCast_add, he, wrap_small (by omega)])
                have HC2 := Lib.hid hc
                have HE2 := Lib.hid he
                clear hc he
                go_upto_region 25 with fail
                go_upto_region 26 with fail
                go_upto_region 27 with fail
                rw [HA2.out, HB2.out]
                by_cases hr : (4294967296 : Int) ≤ (fe : Int)
                · have hdr : decide ((4294967296 : Int) ≤ (fe : Int)) = true := decide_eq_true hr
                  have HD2 : Hid (fc = dig r1 Y d0) := Lib.hid (by
                    have h := HS2.out.last (by omega) b3 HT2.out (by have := HE2.out; omega)
                    rw [HYs.out, ← h]; exact HC2.out.symm)
                  clear hr
                  have HV1 : Hid (IntKind.u64.wrap (IntKind.u64.wrap ((c : Int) * 4294967296) + (fc : Int)) = (((hi * 18446744073709551616 + lo) / y : Nat) : Int)) := Lib.hid (by
                    have h1 := dig_lt huY b4
                    have h2 := dig_lt (u := r1) (d := d0) HrY.out b5
                    rw [← HG.out] at h1
                    rw [← HD2.out] at h2
                    have hf := HFin.out
                    rw [Hr1.out, ← HD2.out, ← HG.out] at hf
                    rw [show ((c : Int) * 4294967296) = ((c * 4294967296 : Nat) : Int) from by simp, wrap_small (by omega), ← Int.natCast_add, wrap_small (by omega), hf.2.1, hf.1.1])
                  have HV2 : Hid (IntKind.u64.wrap (IntKind.u64.wrap (IntKind.u64.wrap ((r1 : Int) * 4294967296) + (d0 : Int)) - IntKind.u64.wrap ((fc : Int) * (Y : Int))) / 2 ^ s = (((hi * 18446744073709551616 + lo) % y : Nat) : Int)) := Lib.hid (by
                    have hf := HFin.out
                    rw [Hr1.out] at hf
                    rw [mod_word HD2.out (by omega) hY2, ← hf.1.2, hf.2.2.symm]
                    simp)
                  go_wp2_with fail
                  rw [HV1.out, HV2.out]
                  go_ret2
                  exact ⟨rfl, Kept.refl _ _⟩
                · have hdr : decide ((4294967296 : Int) ≤ (fe : Int)) = false := decide_eq_false hr
                  have hN : St r1 y1 y0 d0 fc fe := by
                    have h := HS2.out.next HT2.out (by have := HE2.out; omega)
                    rwa [HC2.out, HE2.out] at h
                  have HN2 := Lib.hid hN
                  have HL2 : Hid (fc < fa) := Lib.hid (by have := HT2.out; have := HC2.out; omega)
                  clear hN hr
                  go_wp2_with fail
                  exact ⟨⟨fc, fe, rfl, rfl, HN2.out, by first | rfl | trivial⟩, by simp only [intOf]; have := HL2.out; omega⟩
              · have hdt : decide (IntKind.u64.wrap (IntKind.u64.wrap (4294967296 * (fb : Int)) + (d0 : Int)) < IntKind.u64.wrap ((fa : Int) * (y0 : Int))) = false := decide_eq_false (by rw [HMa.out, HR2.out]; exact fun h => ht (Int.ofNat_lt.1 h))
                have HD2 : Hid (fa = dig r1 Y d0) := Lib.hid (by
                  have h := HS2.out.done (by omega) ht
                  rw [HYs.out]; exact h)
                clear ht
                have HV1 : Hid (IntKind.u64.wrap (IntKind.u64.wrap ((c : Int) * 4294967296) + (fa : Int)) = (((hi * 18446744073709551616 + lo) / y : Nat) : Int)) := Lib.hid (by
                  have h1 := dig_lt huY b4
                  have h2 := dig_lt (u := r1) (d := d0) HrY.out b5
                  rw [← HG.out] at h1
                  rw [← HD2.out] at h2
                  have hf := HFin.out
                  rw [Hr1.out, ← HD2.out, ← HG.out] at hf
                  rw [show ((c : Int) * 4294967296) = ((c * 4294967296 : Nat) : Int) from by simp, wrap_small (by omega), ← Int.natCast_add, wrap_small (by omega), hf.2.1, hf.1.1])
                have HV2 : Hid (IntKind.u64.wrap (IntKind.u64.wrap (IntKind.u64.wrap ((r1 : Int) * 4294967296) + (d0 : Int)) - IntKind.u64.wrap ((fa : Int) * (Y : Int))) / 2 ^ s = (((hi * 18446744073709551616 + lo) % y : Nat) : Int)) := Lib.hid (by
                  have hf := HFin.out
                  rw [Hr1.out] at hf
                  rw [mod_word HD2.out (by omega) hY2, ← hf.1.2, hf.2.2.symm]
                  simp)
                go_wp2_with fail
                rw [HV1.out, HV2.out]
                go_ret2
                exact ⟨rfl, Kept.refl _ _⟩
        · have hdr : decide ((4294967296 : Int) ≤ (e : Int)) = false := decide_eq_false hr
          have hN : St u y1 y0 d1 c e := by
            have h := HS1.out.next HT1.out (by have := HE1.out; omega)
            rwa [HC1.out, HE1.out] at h
          have HN1 := Lib.hid hN
          have HL1 : Hid (c < a) := Lib.hid (by have := HT1.out; have := HC1.out; omega)
          clear hN hr
          go_wp2_with fail
          exact ⟨⟨c, e, rfl, rfl, HN1.out, by first | rfl | trivial⟩, by simp only [intOf]; have := HL1.out; omega⟩
      · have hdt : decide (IntKind.u64.wrap (IntKind.u64.wrap (4294967296 * (b : Int)) + (d1 : Int)) < IntKind.u64.wrap ((a : Int) * (y0 : Int))) = false := decide_eq_false (by rw [HMa.out, HR1.out]; exact fun h => ht (Int.ofNat_lt.1 h))
        have HD1 : Hid (a = dig u Y d1) := Lib.hid (by
          have h := HS1.out.done (by omega) ht
          rw [HYs.out]; exact h)
        clear ht
        have HG : Hid (a = dig u Y d1) := HD1
        obtain ⟨r1, hr1⟩ : ∃ r, (u * 4294967296 + d1) % Y = r := ⟨_, rfl⟩
        have hrY : r1 < Y := by rw [← hr1]; exact Nat.mod_lt _ (by omega)
        have Hr1 := Lib.hid hr1
        have HrY := Lib.hid hrY
        have HW1 : Hid (IntKind.u64.wrap (IntKind.u64.wrap (IntKind.u64.wrap ((u : Int) * 4294967296) + (d1 : Int)) - IntKind.u64.wrap ((a : Int) * (Y : Int))) = (r1 : Int)) := Lib.hid (by rw [mod_word HG.out (by omega) hY2, hr1])
        clear hr1
        go_upto_region 22 with fail
        rw [HW1.out]
        go_upto_region 24 with fail
        have HSt2 := Lib.hid (St.start (u := r1) (d := d0) b1 b2 b3 b5 (by rw [← HYs.out]; exact hrY))
        have EQ2 := Lib.hid (show IntKind.u64.wrap ((r1 : Int) / (y1 : Int)) = ((r1 / y1 : Nat) : Int) by rw [show ((r1 : Int) / (y1 : Int)) = ((r1 / y1 : Nat) : Int) from by simp, wrap_small (Nat.lt_of_le_of_lt (Nat.div_le_self _ _) (by omega))])
        have ER2 := Lib.hid (sub_mul_word HSt2.out.eq (by omega))
        rw [EQ2.out, ER2.out]
        go_loopw [16, 18] (fun r q wr => ∃ fa fb : Nat, q = .int .u64 fa ∧ r = .int .u64 fb ∧ St r1 y1 y0 d0 fa fb ∧ w = wr) (fun _ q _ => (intOf q).toNat)
        case atStart => exact ⟨_, _, rfl, rfl, HSt2.out, rfl⟩
        case round =>
          obtain ⟨fa, fb, rfl, rfl, hst, rfl⟩ := hrel
          have HS2 := Lib.hid hst
          clear hst
          have HM2 : Hid (fa < 4294967296 → IntKind.u64.wrap ((fa : Int) * (y0 : Int)) = ((fa * y0 : Nat) : Int)) := Lib.hid (fun h => by
            rw [show ((fa : Int) * (y0 : Int)) = ((fa * y0 : Nat) : Int) from by simp, wrap_small]
            have := Nat.mul_le_mul (Nat.le_of_lt_succ h : fa ≤ 4294967295) (show y0 ≤ 4294967295 by omega)
            omega)
          have HR2 : Hid (IntKind.u64.wrap (IntKind.u64.wrap (4294967296 * (fb : Int)) + (d0 : Int)) = ((4294967296 * fb + d0 : Nat) : Int)) := Lib.hid (by
            have := HS2.out.low
            rw [show (4294967296 * (fb : Int)) = ((4294967296 * fb : Nat) : Int) from by simp, wrap_small (by omega), ← Int.natCast_add, wrap_small (by omega)])
          by_cases hbig : (4294967296 : Int) ≤ (fa : Int)
          · have HT2 : Hid (dig r1 (y1 * 4294967296 + y0) d0 < fa) := Lib.hid (big b5 (by rw [← HYs.out]; exact hrY) (by omega))
            have hdb : decide ((4294967296 : Int) ≤ (fa : Int)) = true := decide_eq_true hbig
            clear hbig
            obtain ⟨fc, hc⟩ : ∃ fc, fa - 1 = fc := ⟨_, rfl⟩
            obtain ⟨fe, he⟩ : ∃ fe, fb + y1 = fe := ⟨_, rfl⟩
            have HA2 : Hid (IntKind.u64.wrap ((fa : Int) - 1) = (fc : Int)) := Lib.hid (by
              have := HS2.out.top
              have := HT2.out
              rw [show ((fa : Int) - 1) = (fc : Int) by omega, wrap_small (by omega)])
            have HB2 : Hid (IntKind.u64.wrap ((fb : Int) + (y1 : Int)) = (fe : Int)) := Lib.hid (by
              have := HS2.out.low
              rw [← Int.natCast_add, he, wrap_small (by omega)])
            have HC2 := Lib.hid hc
            have HE2 := Lib.hid he
            clear hc he
            go_upto_region 25 with fail
            go_upto_region 26 with fail
            go_upto_region 27 with fail
            rw [HA2.out, HB2.out]
            by_cases hr : (4294967296 : Int) ≤ (fe : Int)
            · have hdr : decide ((4294967296 : Int) ≤ (fe : Int)) = true := decide_eq_true hr
              have HD2 : Hid (fc = dig r1 Y d0) := Lib.hid (by
                have h := HS2.out.last (by omega) b3 HT2.out (by have := HE2.out; omega)
                rw [HYs.out, ← h]; exact HC2.out.symm)
              clear hr
              have HV1 : Hid (IntKind.u64.wrap (IntKind.u64.wrap ((a : Int) * 4294967296) + (fc : Int)) = (((hi * 18446744073709551616 + lo) / y : Nat) : Int)) := Lib.hid (by
                have h1 := dig_lt huY b4
                have h2 := dig_lt (u := r1) (d := d0) HrY.out b5
                rw [← HG.out] at h1
                rw [← HD2.out] at h2
                have hf := HFin.out
                rw [Hr1.out, ← HD2.out, ← HG.out] at hf
                rw [show ((a : Int) * 4294967296) = ((a * 4294967296 : Nat) : Int) from by simp, wrap_small (by omega), ← Int.natCast_add, wrap_small (by omega), hf.2.1, hf.1.1])
              have HV2 : Hid (IntKind.u64.wrap (IntKind.u64.wrap (IntKind.u64.wrap ((r1 : Int) * 4294967296) + (d0 : Int)) - IntKind.u64.wrap ((fc : Int) * (Y : Int))) / 2 ^ s = (((hi * 18446744073709551616 + lo) % y : Nat) : Int)) := Lib.hid (by
                have hf := HFin.out
                rw [Hr1.out] at hf
                rw [mod_word HD2.out (by omega) hY2, ← hf.1.2, hf.2.2.symm]
                simp)
              go_wp2_with fail
              rw [HV1.out, HV2.out]
              go_ret2
              exact ⟨rfl, Kept.refl _ _⟩
            · have hdr : decide ((4294967296 : Int) ≤ (fe : Int)) = false := decide_eq_false hr
              have hN : St r1 y1 y0 d0 fc fe := by
                have h := HS2.out.next HT2.out (by have := HE2.out; omega)
                rwa [HC2.out, HE2.out] at h
              have HN2 := Lib.hid hN
              have HL2 : Hid (fc < fa) := Lib.hid (by have := HT2.out; have := HC2.out; omega)
              clear hN hr
              go_wp2_with fail
              exact ⟨⟨fc, fe, rfl, rfl, HN2.out, by first | rfl | trivial⟩, by simp only [intOf]; have := HL2.out; omega⟩
          · have hal : fa < 4294967296 := by omega
            have hdb : decide ((4294967296 : Int) ≤ (fa : Int)) = false := decide_eq_false hbig
            have HMa := Lib.hid (HM2.out hal)
            clear hbig hal
            by_cases ht : 4294967296 * fb + d0 < fa * y0
            · have HT2 : Hid (dig r1 (y1 * 4294967296 + y0) d0 < fa) := Lib.hid ((HS2.out.test (by omega)).1 ht)
              have hdt : decide (IntKind.u64.wrap (IntKind.u64.wrap (4294967296 * (fb : Int)) + (d0 : Int)) < IntKind.u64.wrap ((fa : Int) * (y0 : Int))) = true := decide_eq_true (by rw [HMa.out, HR2.out]; exact Int.ofNat_lt.2 ht)
              clear ht
              obtain ⟨fc, hc⟩ : ∃ fc, fa - 1 = fc := ⟨_, rfl⟩
              obtain ⟨fe, he⟩ : ∃ fe, fb + y1 = fe := ⟨_, rfl⟩
              have HA2 : Hid (IntKind.u64.wrap ((fa : Int) - 1) = (fc : Int)) := Lib.hid (by
                have := HS2.out.top
                have := HT2.out
                rw [show ((fa : Int) - 1) = (fc : Int) by omega, wrap_small (by omega)])
              have HB2 : Hid (IntKind.u64.wrap ((fb : Int) + (y1 : Int)) = (fe : Int)) := Lib.hid (by
                have := HS2.out.low
                rw [← Int.natCast_add, he, wrap_small (by omega)])
              have HC2 := Lib.hid hc
              have HE2 := Lib.hid he
              clear hc he
              go_upto_region 25 with fail
              go_upto_region 26 with fail
              go_upto_region 27 with fail
              rw [HA2.out, HB2.out]
              by_cases hr : (4294967296 : Int) ≤ (fe : Int)
              · have hdr : decide ((4294967296 : Int) ≤ (fe : Int)) = true := decide_eq_true hr
                have HD2 : Hid (fc = dig r1 Y d0) := Lib.hid (by
                  have h := HS2.out.last (by omega) b3 HT2.out (by have := HE2.out; omega)
                  rw [HYs.out, ← h]; exact HC2.out.symm)
                clear hr
                have HV1 : Hid (IntKind.u64.wrap (IntKind.u64.wrap ((a : Int) * 4294967296) + (fc : Int)) = (((hi * 18446744073709551616 + lo) / y : Nat) : Int)) := Lib.hid (by
                  have h1 := dig_lt huY b4
                  have h2 := dig_lt (u := r1) (d := d0) HrY.out b5
                  rw [← HG.out] at h1
                  rw [← HD2.out] at h2
                  have hf := HFin.out
                  rw [Hr1.out, ← HD2.out, ← HG.out] at hf
                  rw [show ((a : Int) * 4294967296) = ((a * 4294967296 : Nat) : Int) from by simp, wrap_small (by omega), ← Int.natCast_add, wrap_small (by omega), hf.2.1, hf.1.1])
                have HV2 : Hid (IntKind.u64.wrap (IntKind.u64.wrap (IntKind.u64.wrap ((r1 : Int) * 4294967296) + (d0 : Int)) - IntKind.u64.wrap ((fc : Int) * (Y : Int))) / 2 ^ s = (((hi * 18446744073709551616 + lo) % y : Nat) : Int)) := Lib.hid (by
                  have hf := HFin.out
                  rw [Hr1.out] at hf
                  rw [mod_word HD2.out (by omega) hY2, ← hf.1.2, hf.2.2.symm]
                  simp)
                go_wp2_with fail
                rw [HV1.out, HV2.out]
                go_ret2
                exact ⟨rfl, Kept.refl _ _⟩
              · have hdr : decide ((4294967296 : Int) ≤ (fe : Int)) = false := decide_eq_false hr
                have hN : St r1 y1 y0 d0 fc fe := by
                  have h := HS2.out.next HT2.out (by have := HE2.out; omega)
                  rwa [HC2.out, HE2.out] at h
                have HN2 := Lib.hid hN
                have HL2 : Hid (fc < fa) := Lib.hid (by have := HT2.out; have := HC2.out; omega)
                clear hN hr
                go_wp2_with fail
                exact ⟨⟨fc, fe, rfl, rfl, HN2.out, by first | rfl | trivial⟩, by simp only [intOf]; have := HL2.out; omega⟩
            · have hdt : decide (IntKind.u64.wrap (IntKind.u64.wrap (4294967296 * (fb : Int)) + (d0 : Int)) < IntKind.u64.wrap ((fa : Int) * (y0 : Int))) = false := decide_eq_false (by rw [HMa.out, HR2.out]; exact fun h => ht (Int.ofNat_lt.1 h))
              have HD2 : Hid (fa = dig r1 Y d0) := Lib.hid (by
                have h := HS2.out.done (by omega) ht
                rw [HYs.out]; exact h)
              clear ht
              have HV1 : Hid (IntKind.u64.wrap (IntKind.u64.wrap ((a : Int) * 4294967296) + (fa : Int)) = (((hi * 18446744073709551616 + lo) / y : Nat) : Int)) := Lib.hid (by
                have h1 := dig_lt huY b4
                have h2 := dig_lt (u := r1) (d := d0) HrY.out b5
                rw [← HG.out] at h1
                rw [← HD2.out] at h2
                have hf := HFin.out
                rw [Hr1.out, ← HD2.out, ← HG.out] at hf
                rw [show ((a : Int) * 4294967296) = ((a * 4294967296 : Nat) : Int) from by simp, wrap_small (by omega), ← Int.natCast_add, wrap_small (by omega), hf.2.1, hf.1.1])
              have HV2 : Hid (IntKind.u64.wrap (IntKind.u64.wrap (IntKind.u64.wrap ((r1 : Int) * 4294967296) + (d0 : Int)) - IntKind.u64.wrap ((fa : Int) * (Y : Int))) / 2 ^ s = (((hi * 18446744073709551616 + lo) % y : Nat) : Int)) := Lib.hid (by
                have hf := HFin.out
                rw [Hr1.out] at hf
                rw [mod_word HD2.out (by omega) hY2, ← hf.1.2, hf.2.2.symm]
                simp)
              go_wp2_with fail
              rw [HV1.out, HV2.out]
              go_ret2
              exact ⟨rfl, Kept.refl _ _⟩

open Go.Proofs.YthjiobmglebmdaaGreatDoor.Kn

theorem bitLen_shl {y : Nat} (h0 : 0 < y) (hy : y < 18446744073709551616) : ∃ s : Nat, s ≤ 63 ∧ (64 - (Lib.bitLen y : Int)) = (s : Int) ∧ (9223372036854775808 : Nat) ≤ y * 2 ^ s ∧ y * 2 ^ s < (18446744073709551616 : Nat) := by
  obtain ⟨h1, h2, h3⟩ := Lib.bitLenAux_bounds 64 y (by simpa using hy) (by omega)
  have hL : Lib.bitLen y = Lib.bitLenAux 64 y := rfl
  have hle : Lib.bitLen y ≤ 64 := Lib.bitLen_le y 64 (by omega) (by simpa using hy)
  rw [hL] at hle ⊢
  generalize Lib.bitLenAux 64 y = L at *
  refine ⟨64 - L, by omega, by omega, ?_, ?_⟩
  · have := Nat.mul_le_mul_right (2 ^ (64 - L)) h2
    rw [← Nat.pow_add, show L - 1 + (64 - L) = 63 by omega] at this
    exact this
  · have := Nat.mul_lt_mul_of_pos_right h3 (Nat.pow_pos (n := 64 - L) (show 0 < 2 by decide))
    rw [← Nat.pow_add, show L + (64 - L) = 64 by omega] at this
    exact this
set_option maxRecDepth 100000 in
set_option maxHeartbeats 4000000 in
theorem div64_ok (w : World) (hi lo y : Nat) (hh : hi < y) (hl : lo < 18446744073709551616) (hy : y < 18446744073709551616) :
    Calls Tryz.prog 83 #[.int .u64 hi, .int .u64 lo, .int .u64 y] w fun e w' => e = .returned (.tuple #[.int .u64 ((hi * 18446744073709551616 + lo) / y : Nat), .int .u64 ((hi * 18446744073709551616 + lo) % y : Nat)]) ∧ Kept Nob w w' := by
  by_cases h0 : 0 < hi
  · obtain ⟨s, h1, h2, h3, h4⟩ := bitLen_shl (show 0 < y by omega) hy
    exact bits_Div64 w hi lo y s _ hh hl hy h0 (fun wx => (Tryz.bits_LeadingZeros64 (y : Int) wx (by omega) (by omega)).mono fun e w' ⟨e1, e2⟩ => ⟨by rw [e1, ← h2]; rfl, e2.symm⟩) h1 rfl h3 h4
  · obtain rfl : hi = 0 := by omega
    have HQ := Lib.hid (show IntKind.u64.wrap ((lo : Int) / (y : Int)) = ((lo / y : Nat) : Int) by rw [show ((lo : Int) / (y : Int)) = ((lo / y : Nat) : Int) from by simp, wrap_small (Nat.lt_of_le_of_lt (Nat.div_le_self _ _) hl)])
    have hy0 : ¬ y ≤ 0 := by omega
    have hy1 : ¬ y = 0 := by omega
    go_enter Tryz.func83, Tryz.ntmps83
    go_wp2_with fail
    go_quiet (fail)
    go_wp2_with fail
    rw [HQ.out, show ((lo : Int) % (y : Int)) = ((lo % y : Nat) : Int) from by simp]
    go_ret2
    exact ⟨by simp, Kept.drewN _ _ _⟩
end Go.Proofs.YthjiobmglebmdaaGreatDoor
