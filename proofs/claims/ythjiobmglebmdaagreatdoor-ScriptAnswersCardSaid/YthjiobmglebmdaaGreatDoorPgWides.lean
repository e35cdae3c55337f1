/- strconv.FormatUint at base 10; a number's numeral in two pieces; wide.Text. wide.Text: a number of two words, written. -/
import Derived.Test.YthjiobmglebmdaaGreatDoorPgDivs
import Derived.Test.YthjiobmglebmdaaGreatDoorPgRfText
import Derived.Lib.AppendIntMem
namespace Go.Proofs.YthjiobmglebmdaaGreatDoor
open Go.Lib Go.RowKit Go.Sort

set_option maxHeartbeats 6400000 in
set_option maxRecDepth 100000 in
theorem fmt_inner (w : World) (u : Nat) (hu64 : u < 18446744073709551616) (hE : Env w) :
    Calls Tryz.prog 85 #[.int .u64 u, .int .i64 10] w fun e w' => e = .returned (strV (Lib.decDigits u)) ∧ Kept Nob w w' := by
  by_cases hs : u < 100
  · have HS := fun (wx : World) => Lib.hid (Tryz.internal_strconv_small u hs wx)
    go_enter Tryz.func85, Tryz.ntmps85
    go_wp2_with fail
    refine (HS _).out.mono ?_
    rintro e w' ⟨rfl, rfl⟩
    go_wp2_with fail
    go_ret
    exact ⟨rfl, Kept.refl _ _⟩
  · have hu1 : 1 ≤ u := by omega
    have hnd20 : Lib.nDigits u ≤ 20 := by have := Lib.numDigits_eq u hu1 hu64; split at this <;> omega
    have hal : Tryz.prog.arrayLen 176 = 24 := by kernel_rfl
    have hsl1 : ∀ W, (Instr.sliceAt 176 (.pointer (some ⟨w.heap.size, 0, none⟩)) none (some (.int .i64 (Lib.nDigits u : Int))) none).run Tryz.prog W = .ok (.slice (some ⟨w.heap.size, 0, none⟩) (Lib.nDigits u) 24) W := fun W => by
      rw [run_sliceAt_array_h W 176 ⟨w.heap.size, 0, none⟩ (by rw [Tryz.underlying176]; rfl) .i64 (Lib.nDigits u : Int) (by omega) (by rw [hal]; omega)]
      go_simp
    have hH0 := Lib.holds_zero0 w 176 (Lib.nDigits u) (by omega)
    have hfmt := Tryz.internal_strconv_formatBase10 w.heap.size 0 24 u (Array.replicate (Lib.nDigits u) 0) (w.alloc (.cells Lib.zeros24 176)) hH0 (by rw [Array.size_replicate]; exact Lib.lt_pow_nDigits u) hu64 (by rw [Array.size_replicate]; omega)
    rw [Array.size_replicate] at hfmt
    have HH0 := Lib.hid hH0
    have HFm := Lib.hid hfmt
    have HND := fun (wx : World) (kx : Kept Nob w wx) => Lib.hid (Tryz.internal_strconv_numDigits u hu1 hu64 wx (hE.kept kx).tab)
    clear hH0 hal hfmt
    go_enter Tryz.func85, Tryz.ntmps85
    go_wp2_with (go_at_call 104; refine (HND _ (Kept.alloc Nob _ _)).out.mono ?_; rintro e w' ⟨rfl, rfl⟩)
    refine HFm.out.mono ?_
    rintro e w' ⟨rfl, k, v', dk, rfl, hF⟩
    have hcv : (convert 101 9 (.slice (some ⟨w.heap.size, 0, none⟩) (Lib.nDigits u) 24)).run Tryz.prog ((putRow (fun (b : UInt8) => Value.int .u8 (b.toNat : Int)) (w.alloc (.cells Lib.zeros24 176)) w.heap.size 0 dk).drewN k) = .ok (.string ⟨(Lib.decDigits u).toArray⟩) ((putRow (fun (b : UInt8) => Value.int .u8 (b.toNat : Int)) (w.alloc (.cells Lib.zeros24 176)) w.heap.size 0 dk).drewN k) := by
      have h := run_convert_bytes_back (P := Tryz.prog) ((putRow (fun (b : UInt8) => Value.int .u8 (b.toNat : Int)) (w.alloc (.cells Lib.zeros24 176)) w.heap.size 0 dk).drewN k) 101 9 5 ⟨w.heap.size, 0, none⟩ 24 (Lib.decDigits u) Tryz.underlying101 Tryz.underlying5 Tryz.underlying9 (fun j hj => by
        rw [Lib.row_is_numeral hF j hj, Lib.add_plain, World.cell?_drewN]
        exact cell?_putRow (fun (b : UInt8) => Value.int .u8 (b.toNat : Int)) _ w.heap.size 0 _ dk HH0.out (by rw [hF.size, Array.size_replicate]) j (by rw [hF.size]; rw [Lib.decDigits_length] at hj; exact hj))
      rw [Lib.decDigits_length] at h
      exact h
    go_wp2_with fail
    go_ret
    obtain ⟨os, eo⟩ := Lib.fin_at w (.cells Lib.zeros24 176) dk k 0
    exact ⟨rfl, by rw [eo]; exact Kept.grow w k os⟩
theorem fmt_U (w : World) (u : Nat) (hu64 : u < 18446744073709551616) (hE : Env w) :
    Calls Tryz.prog 58 #[.int .u64 u, .int .i64 10] w fun e w' => e = .returned (strV (Lib.decDigits u)) ∧ Kept Nob w w' := by
  have HI := Lib.hid (fmt_inner w u hu64 hE)
  clear hE
  go_enter Tryz.func58, Tryz.ntmps58
  go_wp2_with fail
  refine HI.out.mono ?_
  rintro e w' ⟨rfl, hk⟩
  have HK := Lib.hid hk
  clear hk
  go_wp2_with fail
  go_ret
  exact ⟨rfl, HK.out⟩
/-- a numeral's last k digits -/
def padDec (k r : Nat) : List UInt8 := List.replicate (k - (decDigits r).length) 48 ++ decDigits r
theorem dec_less (n : Nat) (h : n < 10) : decDigits n = [UInt8.ofNat (48 + n)] := by
  rw [decDigits]; simp [h]
theorem pad_snoc (k r : Nat) (hk : 1 ≤ k) : padDec (k + 1) r = padDec k (r / 10) ++ [UInt8.ofNat (48 + r % 10)] := by
  unfold padDec
  by_cases h : r < 10
  · rw [dec_less r h, show r / 10 = 0 by omega, dec_less 0 (by omega), Nat.mod_eq_of_lt h]
    obtain ⟨m, rfl⟩ : ∃ m, k = m + 1 := ⟨k - 1, by omega⟩
    simp [List.replicate_succ']
  · rw [dec_more r h]
    simp only [List.length_append, List.length_cons, List.length_nil, Nat.zero_add, List.append_assoc]
    rw [show k + 1 - ((decDigits (r / 10)).length + 1) = k - (decDigits (r / 10)).length by omega]
theorem dec_split : ∀ (k N : Nat), 1 ≤ k → 10 ^ k ≤ N → decDigits N = decDigits (N / 10 ^ k) ++ padDec k (N % 10 ^ k)
  | 0, _, h, _ => by omega
  | 1, N, _, h => by
    rw [dec_more N (by omega)]
    congr 1
    unfold padDec
    rw [show (10 : Nat) ^ 1 = 10 from rfl, dec_less (N % 10) (by omega)]
    simp
  | k + 2, N, _, h => by
    have hp : 10 ^ (k + 2) = 10 * 10 ^ (k + 1) := by rw [Nat.pow_succ]; omega
    have hpos : 1 ≤ 10 ^ (k + 1) := Nat.pow_pos (by decide)
    have hN : 10 ^ (k + 1) ≤ N / 10 := by rw [Nat.le_div_iff_mul_le (by decide)]; omega
    have ih := dec_split (k + 1) (N / 10) (by omega) hN
    rw [dec_more N (by omega), ih, pad_snoc (k + 1) _ (by omega), List.append_assoc, Nat.div_div_eq_div_mul, ← hp]
    have e1 : N % 10 ^ (k + 2) % 10 = N % 10 := by rw [hp, Nat.mod_mul_right_mod]
    have e2 : N % 10 ^ (k + 2) / 10 = N / 10 % 10 ^ (k + 1) := by rw [hp, Nat.mod_mul_right_div_self]
    rw [e1, e2]

theorem repeat_one (b : UInt8) : ∀ c, repeatL [b] c = List.replicate c b
  | 0 => rfl
  | c + 1 => by simp [repeatL, repeat_one b c, List.replicate_succ]
theorem uV_parts (hi lo : Nat) (hl : lo < 18446744073709551616) : uV (hi * 18446744073709551616 + lo) = .agg #[.int .u64 (hi : Nat), .int .u64 (lo : Nat)] := by
  unfold uV
  rw [show (hi * 18446744073709551616 + lo) / 18446744073709551616 = hi by omega, show (hi * 18446744073709551616 + lo) % 18446744073709551616 = lo by omega]
theorem dec_size (n : Nat) (h : n < 340282366920938463463374607431768211456) : (decDigits n).length ≤ 39 := dec_len 39 n (by omega) (by omega)
set_option maxRecDepth 100000 in
set_option maxHeartbeats 4000000 in
theorem wide_Text (N : Nat) : N < 340282366920938463463374607431768211456 → ∀ w : World, Env w →
    Calls Tryz.prog 57 #[uV N] w fun e w' => e = .returned (strV (decDigits N)) ∧ Kept Nob w w' := by
  induction N using Nat.strongRecOn with
  | ind N ih =>
  intro hN w hE
  obtain ⟨hi, hhi⟩ : ∃ k, N / 18446744073709551616 = k := ⟨_, rfl⟩
  obtain ⟨lo, hlo⟩ : ∃ k, N % 18446744073709551616 = k := ⟨_, rfl⟩
  have hl : lo < 18446744073709551616 := by omega
  have hh : hi < 18446744073709551616 := by omega
  have hNe : N = hi * 18446744073709551616 + lo := by omega
  have hu : uV N = .agg #[.int .u64 (hi : Nat), .int .u64 (lo : Nat)] := by rw [hNe, uV_parts hi lo hl]
  rw [hu]
  by_cases h0 : hi = 0
  · subst h0
    have HFm := fun (wx : World) (kx : Kept Nob w wx) => Lib.hid (fmt_U wx lo hl (hE.kept kx))
    have HNe : Hid (N = lo) := Lib.hid (by omega)
    clear ih hhi hlo hNe hE hu
    go_enter Tryz.func57, Tryz.ntmps57
    go_wp2_with fail
    refine (HFm _ (Kept.alloc Nob w _)).out.mono ?_
    rintro e w1 ⟨rfl, hk1⟩
    have HK := Lib.hid ((Kept.alloc Nob w _).then hk1)
    clear hk1
    go_wp2_with fail
    go_ret
    exact ⟨by rw [HNe.out]; rfl, HK.out⟩
  · obtain ⟨q, hq⟩ : ∃ k, hi / 10000000000000000000 = k := ⟨_, rfl⟩
    obtain ⟨r, hr⟩ : ∃ k, hi % 10000000000000000000 = k := ⟨_, rfl⟩
    obtain ⟨m, hm⟩ : ∃ k, (r * 18446744073709551616 + lo) / 10000000000000000000 = k := ⟨_, rfl⟩
    obtain ⟨t, ht⟩ : ∃ k, (r * 18446744073709551616 + lo) % 10000000000000000000 = k := ⟨_, rfl⟩
    have hrl : r < 10000000000000000000 := by omega
    have htl : t < 10000000000000000000 := by omega
    have hm64 : m < 18446744073709551616 := by omega
    have hq64 : q < 18446744073709551616 := by omega
    have hND : N / 10000000000000000000 = q * 18446744073709551616 + m := by omega
    have hNM : N % 10000000000000000000 = t := by omega
    have HFm := fun (wx : World) (kx : Kept Nob w wx) => Lib.hid (fmt_U wx t (by omega) (hE.kept kx))
    have HDv := fun (wx : World) => Lib.hid (div64_ok wx r lo 10000000000000000000 hrl hl (by omega))
    have HTx := fun (wx : World) (kx : Kept Nob w wx) => Lib.hid (ih (q * 18446744073709551616 + m) (by omega) (by omega) wx (hE.kept kx))
    simp only [uV_parts q m hm64] at HTx
    rw [hm, ht] at HDv
    have hL : (decDigits t).length ≤ 19 := dec_len 19 t (by omega) (by omega)
    have hLp := dec_pos t
    have hL2 := dec_size (q * 18446744073709551616 + m) (by omega)
    have hsp := dec_split 19 N (by omega) (by omega)
    rw [show (10 : Nat) ^ 19 = 10000000000000000000 from rfl, hND, hNM] at hsp
    have HSp := Lib.hid hsp
    obtain ⟨c, hc⟩ : ∃ c, 19 - (decDigits t).length = c := ⟨_, rfl⟩
    have HRp := fun (wx : World) => Lib.hid (Tryz.strings_Repeat ⟨#[48]⟩ c wx (by omega) (by show 1 * c ≤ _; omega))
    obtain ⟨tv, htv⟩ : ∃ u, (⟨(decDigits t).toArray⟩ : ByteArray) = u := ⟨_, rfl⟩
    have htz : tv.size = (decDigits t).length := by rw [← htv]; simp [ByteArray.size]
    obtain ⟨nv, hnv⟩ : ∃ u, (⟨(decDigits (q * 18446744073709551616 + m)).toArray⟩ : ByteArray) = u := ⟨_, rfl⟩
    have hnz : nv.size ≤ 39 := by rw [← hnv]; simpa [ByteArray.size] using hL2
    obtain ⟨pv, hpv⟩ : ∃ u, (⟨(repeatL (⟨#[48]⟩ : ByteArray).data.toList c).toArray⟩ : ByteArray) = u := ⟨_, rfl⟩
    have hpz : pv.size ≤ 19 := by rw [← hpv]; simp [ByteArray.size, repeatL_length]; omega
    have HOut : Hid (strV (decDigits N) = .string ((nv ++ pv) ++ tv)) := Lib.hid (by
      rw [hsp, ← hnv, ← hpv, ← htv, strV_append, strV_append]
      unfold padDec
      rw [hc, show (⟨#[48]⟩ : ByteArray).data.toList = [48] from rfl, repeat_one]
      simp [strV])
    have HC : Hid ((19 : Int) - (tv.size : Int) = (c : Int)) := Lib.hid (by omega)
    unfold strV at HFm HTx
    simp only [htv] at HFm
    simp only [hnv] at HTx
    simp only [hpv] at HRp
    have EQ := Lib.hid (show (hi : Int) / 10000000000000000000 = (q : Int) by omega)
    have ER := Lib.hid (show (hi : Int) % 10000000000000000000 = (r : Int) by omega)
    have hts : tv.size ≤ 19 := by omega
    have HHi := Lib.hid (show ¬ hi = 0 from h0)
    have hh0 : ((hi : Int) == 0) = false := by simpa using h0
    clear ih hhi hlo hNe hE hu hq hr hm ht hND hNM hL hLp hL2 hsp hc htv htz hnv hpv h0
    go_enter Tryz.func57, Tryz.ntmps57
    go_upto_region 3 with fail
    go_quiet (fail)
    rw [EQ.out, ER.out]
    go_wp2_with fail
    refine (HDv _).out.mono ?_
    rintro e w1 ⟨rfl, hk1⟩
    have HK1 := Lib.hid (((Kept.alloc Nob w (.cells #[.int .u64 hi, .int .u64 lo] 111)).then (Kept.drewN Nob _ nq)).then hk1)
    clear hk1
    go_wp2_with fail
    refine (HFm _ HK1.out).out.mono ?_
    rintro e w2 ⟨rfl, hk2⟩
    have HK2 := Lib.hid (HK1.out.then hk2)
    clear hk2
    go_wp2_with fail
    refine (HTx _ HK2.out).out.mono ?_
    rintro e w3 ⟨rfl, hk3⟩
    have HK3 := Lib.hid (HK2.out.then hk3)
    clear hk3
    go_wp2_with fail
    rw [HC.out]
    refine (HRp _).out.mono ?_
    rintro e w4 ⟨rfl, hb4⟩
    have HK4 := Lib.hid (HK3.out.then (Kept.below' hb4))
    clear hb4
    go_wp2_with fail
    go_ret
    exact ⟨by rw [HOut.out]; rfl, HK4.out⟩
end Go.Proofs.YthjiobmglebmdaaGreatDoor
