/- The document's own division of a number of two words, bit by bit. -/
import Derived.Test.YthjiobmglebmdaaGreatDoorPgDv
import Derived.Test.YthjiobmglebmdaaGreatDoorPgScRead
import Derived.Laws.Shifts
import Derived.BigRegion
import Derived.Laws.BitsAllLaws
namespace Go.Proofs.YthjiobmglebmdaaGreatDoor
open Go.RowKit
open Go.Proofs.YthjiobmglebmdaaGreatDoor.Dv

theorem and_word {x : Nat} (h : x < 18446744073709551616) : bits .and .u64 (x : Int) 1 = ((x % 2 : Nat) : Int) := by
  rw [show (1 : Int) = ((1 : Nat) : Int) from rfl, u64_and_nat x 1 h (by omega), Nat.and_one_is_mod]
theorem or_word {r b : Nat} (hb : b ≤ 1) : bits .or .u64 (IntKind.u64.wrap ((r : Int) * 2)) (b : Int) = ((2 * r % 18446744073709551616 + b : Nat) : Int) := by
  have e : IntKind.u64.wrap ((r : Int) * 2) = ((2 * r % 18446744073709551616 : Nat) : Int) := by
    simp [IntKind.wrap, IntKind.bits, IntKind.signed]
    omega
  rw [e, bits_or_u64_nat _ _ (by omega) (by omega), or_bit hb]
theorem or_word2 {r b : Nat} (hr : r < 9223372036854775808) (hb : b ≤ 1) : bits .or .u64 ((r : Int) * 2) (b : Int) = ((2 * r % 18446744073709551616 + b : Nat) : Int) := by
  rw [← or_word hb]
  have e : IntKind.u64.wrap ((r : Int) * 2) = (r : Int) * 2 := by
    simp [IntKind.wrap, IntKind.bits, IntKind.signed]
    omega
  rw [e]
theorem pow_word {x k : Nat} (hx : x < 18446744073709551616) (hk : k < 64) : bits .or .u64 (x : Int) (IntKind.u64.wrap (2 ^ k)) = ((x ||| 2 ^ k : Nat) : Int) := by
  have hp : 2 ^ k < 18446744073709551616 := by
    rw [show (18446744073709551616 : Nat) = 2 ^ 64 from by decide]; exact Nat.pow_lt_pow_right (by omega) hk
  have e : IntKind.u64.wrap (2 ^ k) = ((2 ^ k : Nat) : Int) := by
    rw [show ((2 : Int) ^ k) = ((2 ^ k : Nat) : Int) from by simp]
    generalize 2 ^ k = p at *
    simp [IntKind.wrap, IntKind.bits, IntKind.signed]
    omega
  rw [e, bits_or_u64_nat _ _ hx hp]
theorem and_word2 {x m : Nat} (h : x < 18446744073709551616) : bits .and .u64 ((x : Int) / 2 ^ m) 1 = ((x / 2 ^ m % 2 : Nat) : Int) := by
  rw [← and_word (Nat.lt_of_le_of_lt (Nat.div_le_self _ _) h)]
  congr 1
theorem sub_word {r d b : Nat} (hr : r < d) (hd : d < 18446744073709551616) (hb : b ≤ 1) (h : d ≤ 2 * r + b) : IntKind.u64.wrap (((2 * r % 18446744073709551616 + b : Nat) : Int) - (d : Int)) = ((2 * r + b - d : Nat) : Int) := by
  simp [IntKind.wrap, IntKind.bits, IntKind.signed]
  omega
def uV (n : Nat) : Value := .agg #[.int .u64 (n / 18446744073709551616 : Nat), .int .u64 (n % 18446744073709551616 : Nat)]
set_option maxRecDepth 100000 in
set_option maxHeartbeats 4000000 in
theorem ref_Div (w : World) (hi lo d : Nat) (hh : hi < 18446744073709551616) (hl : lo < 18446744073709551616) (hd : d < 18446744073709551616) (h0 : 0 < d) :
    Calls Tryz.prog 86 #[.agg #[.int .u64 hi, .int .u64 lo], .int .u64 d] w fun e w' => e = .returned (.tuple #[uV ((hi * 18446744073709551616 + lo) / d), .int .u64 ((hi * 18446744073709551616 + lo) % d : Nat)]) ∧ Kept Nob w w' := by
  obtain ⟨N, hN⟩ : ∃ N, hi * 18446744073709551616 + lo = N := ⟨_, rfl⟩
  rw [hN]
  have hNlt : N < 340282366920938463463374607431768211456 := by omega
  have HF := Lib.hid (first (d := d) hNlt h0)
  have HN := Lib.hid hN
  go_enter Tryz.func86, Tryz.ntmps86
  go_wp2_with fail
  go_loopw [7, 8] (fun r i wr => ∃ m : Nat, m ≤ 128 ∧ i = .int .i64 ((m : Int) - 1) ∧ r = .int .u64 (rv N d m : Nat) ∧ wr.heap[w.heap.size]? = some (.cells #[.int .u64 (hi : Nat), .int .u64 (lo : Nat)] 117 (0, 0)) ∧ wr.heap[w.heap.size + 1]? = some (.cells #[.int .u64 0, .int .u64 0] 117 (0, 0)) ∧
    wr.heap[w.heap.size + 1 + 1]? = some (.cells #[.int .u64 (qv N d m / 18446744073709551616 : Nat), .int .u64 (qv N d m % 18446744073709551616 : Nat)] 117 (0, 0)) ∧ Kept Nob w wr) (fun _ i _ => (intOf i + 1).toNat)
  case atStart =>
    refine ⟨128, by omega, rfl, by rw [HF.out.1]; rfl, ?_, ?_, ?_, ((Kept.alloc Nob w _).then (Kept.alloc Nob _ _)).then (Kept.alloc Nob _ _)⟩
    · rw [Go.heap_alloc_old _ _ (by simp; omega), Go.heap_alloc_old _ _ (by simp)]; exact Go.heap_alloc_new w _
    · rw [Go.heap_alloc_old _ _ (by simp)]; simpa using Go.heap_alloc_new (w.alloc (.cells #[.int .u64 (hi : Nat), .int .u64 (lo : Nat)] 117)) (.cells #[.int .u64 0, .int .u64 0] 117)
    · rw [HF.out.2]; simpa using Go.heap_alloc_new ((w.alloc (.cells #[.int .u64 (hi : Nat), .int .u64 (lo : Nat)] 117)).alloc (.cells #[.int .u64 0, .int .u64 0] 117)) (.cells #[.int .u64 0, .int .u64 0] 117)
  case round =>
    obtain ⟨m, hm, rfl, rfl, hb0, hb1, hq, hw⟩ := hrel
    have HW := Lib.hid hw
    clear hw
    by_cases hm0 : m = 0
    · subst hm0
      have HL := Lib.hid (last N d)
      rw [HL.out.2] at hq
      rw [HL.out.1, show ((0 : Nat) : Int) - 1 = -1 from by omega]
      generalize hqh : N / d / 18446744073709551616 = qh at *
      generalize hql : N / d % 18446744073709551616 = ql at *
      have c0 : wr.cell? ⟨w.heap.size + 1 + 1, 0, none⟩ = some (.int .u64 (qh : Nat)) := cell_at hq 0 _ rfl
      have c1 : wr.cell? ⟨w.heap.size + 1 + 1, 1, none⟩ = some (.int .u64 (ql : Nat)) := cell_at hq 1 _ rfl
      have r0 : wr.cell? ⟨w.heap.size + 1, 0, none⟩ = some (.int .u64 0) := cell_at hb1 0 _ rfl
      have r1 : wr.cell? ⟨w.heap.size + 1, 1, none⟩ = some (.int .u64 0) := cell_at hb1 1 _ rfl
      have z0 : wr.frozen? ⟨w.heap.size + 1, 0, none⟩ = false := frozen_of_row wr _ 0 _ _ hb1
      have z1 : wr.frozen? ⟨w.heap.size + 1, 1, none⟩ = false := frozen_of_row wr _ 1 _ _ hb1
      clear hq hb0
      go_wp2_with fail
      (try simp only [Exit.inBlock, Exit.then])
      refine bodyPost_ret (v := .tuple #[.agg #[.int .u64 (qh : Nat), .int .u64 (ql : Nat)], .int .u64 (N % d : Nat)]) ?_ rfl ?_
      · have e0 : ((wr.setCell ⟨w.heap.size + 1, 0, none⟩ (.int .u64 (qh : Nat))).setCell ⟨w.heap.size + 1, 1, none⟩ (.int .u64 (ql : Nat))).cell? ⟨w.heap.size + 1, 0, none⟩ = some (.int .u64 (qh : Nat)) :=
          cell_at (Go.heap_setCell_same _ _ _ _ _ _ (Go.heap_setCell_same _ _ _ _ _ _ hb1)) 0 _ rfl
        have e1 : ((wr.setCell ⟨w.heap.size + 1, 0, none⟩ (.int .u64 (qh : Nat))).setCell ⟨w.heap.size + 1, 1, none⟩ (.int .u64 (ql : Nat))).cell? ⟨w.heap.size + 1, 1, none⟩ = some (.int .u64 (ql : Nat)) :=
          cell_at (Go.heap_setCell_same _ _ _ _ _ _ (Go.heap_setCell_same _ _ _ _ _ _ hb1)) 1 _ rfl
        simp [go_sem, results, loadVar, loadCells, asAddr, Sem.run_bind, e0, e1]
      · refine ⟨by simp [uV, hqh, hql], HW.out.from (Nat.le_refl _) ((Kept.setCell _ _ _ ?_).trans (Kept.setCell _ _ _ ?_) (fun _ _ h => h))⟩ <;> simp [From]
    · obtain ⟨m, rfl⟩ : ∃ k, m = k + 1 := ⟨m - 1, by omega⟩
      rw [show ((m + 1 : Nat) : Int) - 1 = (m : Int) from by omega]
      have b0 : wr.cell? ⟨w.heap.size, 0, none⟩ = some (.int .u64 (hi : Nat)) := cell_at hb0 0 _ rfl
      have b1 : wr.cell? ⟨w.heap.size, 1, none⟩ = some (.int .u64 (lo : Nat)) := cell_at hb0 1 _ rfl
      have q0 : wr.cell? ⟨w.heap.size + 1 + 1, 0, none⟩ = some (.int .u64 (qv N d (m + 1) / 18446744073709551616 : Nat)) := cell_at hq 0 _ rfl
      have q1 : wr.cell? ⟨w.heap.size + 1 + 1, 1, none⟩ = some (.int .u64 (qv N d (m + 1) % 18446744073709551616 : Nat)) := cell_at hq 1 _ rfl
      have z0 : wr.frozen? ⟨w.heap.size + 1 + 1, 0, none⟩ = false := frozen_of_row wr _ 0 _ _ hq
      have z1 : wr.frozen? ⟨w.heap.size + 1 + 1, 1, none⟩ = false := frozen_of_row wr _ 1 _ _ hq
      have HS := Lib.hid (Dv.step (N := N) (m := m) h0)
      have HD := Lib.hid (dbl (rv_lt (N := N) (m := m + 1) h0) hd (bt_le N m))
      have hbl := bt_le N m
      have hrl := rv_lt (N := N) (m := m + 1) h0
      have HO := Lib.hid (or_word (r := rv N d (m + 1)) hbl)
      have HO2 := fun h => Lib.hid (or_word2 (r := rv N d (m + 1)) h hbl)
      have HSub := fun h => Lib.hid (sub_word hrl hd hbl h)
      have HQlo := fun (h : m < 64) => set_lo (N := N) (d := d) h
      have HQhi := fun (h : 64 ≤ m) => set_hi (N := N) (d := d) h
      have hqN := qv_le N d (m + 1)
      by_cases h64 : 64 ≤ m
      · have HB := Lib.hid (and_word2 (x := hi) (m := m - 64) hh)
        rw [bit_hi (hi := hi) hl h64, hN] at HB
        have HP := Lib.hid (HQhi h64)
        obtain ⟨qx, hqx⟩ : ∃ x, (qv N d (m + 1) + 2 ^ m) / 18446744073709551616 = x := ⟨_, rfl⟩
        have HX := Lib.hid hqx
        have HW2 : Hid (bits .or .u64 ((qv N d (m + 1) : Nat) / 18446744073709551616) (IntKind.u64.wrap (2 ^ (m - 64))) = (qx : Int)) := Lib.hid (by
          rw [← hqx, ← HP.out.1, ← pow_word (by omega) (by omega)]; simp)
        clear HQlo HQhi hqx
        go_wp2_with fail
        · rename_i _ h1
          rw [HB.out, HO.out, (HSub (by omega)).out, ← (HS.out.1 (by omega)).1]
          have HE := Lib.hid (HS.out.1 (by omega)).2
          go_region
          rw [HW2.out]
          go_wp2_with fail
          refine ⟨⟨m, by omega, rfl, rfl, ?_, ?_, ?_, HW.out.from (Nat.le_refl _) ((Kept.setCell _ _ _ (by simp [From]; omega)).trans' (Kept.drew _ _))⟩, by simp [intOf]⟩
          · rw [heap_drew, Go.heap_setCell_other _ _ _ _ (by simp; omega)]; exact hb0
          · rw [heap_drew, Go.heap_setCell_other _ _ _ _ (by simp)]; exact hb1
          · rw [heap_drew, Go.heap_setCell_same _ _ _ _ _ _ hq, HE.out, HX.out, ← HP.out.2]
            simp
        · rename_i _ h1 h2
          rw [HB.out, (HO2 (by omega)).out] at h2
          have hge : d ≤ 2 * rv N d (m + 1) + bt N m := by simp at h2; omega
          rw [HB.out, (HO2 (by omega)).out, (HSub hge).out, ← (HS.out.1 hge).1]
          have HE := Lib.hid (HS.out.1 hge).2
          go_region
          rw [HW2.out]
          go_wp2_with fail
          refine ⟨⟨m, by omega, rfl, rfl, ?_, ?_, ?_, HW.out.from (Nat.le_refl _) ((Kept.setCell _ _ _ (by simp [From]; omega)).trans' (Kept.drew _ _))⟩, by simp [intOf]⟩
          · rw [heap_drew, Go.heap_setCell_other _ _ _ _ (by simp; omega)]; exact hb0
          · rw [heap_drew, Go.heap_setCell_other _ _ _ _ (by simp)]; exact hb1
          · rw [heap_drew, Go.heap_setCell_same _ _ _ _ _ _ hq, HE.out, HX.out, ← HP.out.2]
            simp
        · rename_i _ h1 h2
          rw [HB.out, (HO2 (by omega)).out] at h2
          rw [HB.out, (HO2 (by omega)).out]
          have hlt : 2 * rv N d (m + 1) + bt N m < d := by simp at h2; omega
          refine ⟨⟨m, by omega, rfl, ?_, hb0, hb1, ?_, HW.out⟩, ?_⟩
          · rw [HD.out.2 hlt, (HS.out.2 hlt).1]
          · rw [(HS.out.2 hlt).2]; exact hq
          · simp [intOf]
      · have HB := Lib.hid (and_word2 (x := lo) (m := m) hl)
        rw [bit_lo (hi := hi) (by omega), hN] at HB
        have HP := Lib.hid (HQlo (by omega))
        obtain ⟨qx, hqx⟩ : ∃ x, (qv N d (m + 1) + 2 ^ m) % 18446744073709551616 = x := ⟨_, rfl⟩
        have HX := Lib.hid hqx
        have HW2 : Hid (bits .or .u64 ((qv N d (m + 1) : Nat) % 18446744073709551616) (IntKind.u64.wrap (2 ^ (m))) = (qx : Int)) := Lib.hid (by
          rw [← hqx, ← HP.out.1, ← pow_word (by omega) (by omega)]; simp)
        clear HQlo HQhi hqx
        have hm64 : m < 64 := by omega
        have hmin : min m 64 = m := by omega
        clear h64
        go_wp2_with fail
        · rename_i _ h1
          rw [HB.out, HO.out, (HSub (by omega)).out, ← (HS.out.1 (by omega)).1]
          have HE := Lib.hid (HS.out.1 (by omega)).2
          go_region
          rw [HW2.out]
          go_wp2_with fail
          refine ⟨⟨m, by omega, rfl, rfl, ?_, ?_, ?_, HW.out.from (Nat.le_refl _) ((Kept.setCell _ _ _ (by simp [From]; omega)).trans' (Kept.drew _ _))⟩, by simp [intOf]⟩
          · rw [heap_drew, Go.heap_setCell_other _ _ _ _ (by simp; omega)]; exact hb0
          · rw [heap_drew, Go.heap_setCell_other _ _ _ _ (by simp)]; exact hb1
          · rw [heap_drew, Go.heap_setCell_same _ _ _ _ _ _ hq, HE.out, HX.out, ← HP.out.2]
            simp
        · rename_i _ h1 h2 _
          rw [HB.out, (HO2 (by omega)).out] at h2
          have hge : d ≤ 2 * rv N d (m + 1) + bt N m := by simp at h2; omega
          rw [HB.out, (HO2 (by omega)).out, (HSub hge).out, ← (HS.out.1 hge).1]
          have HE := Lib.hid (HS.out.1 hge).2
          go_region
          rw [HW2.out]
          go_wp2_with fail
          refine ⟨⟨m, by omega, rfl, rfl, ?_, ?_, ?_, HW.out.from (Nat.le_refl _) ((Kept.setCell _ _ _ (by simp [From]; omega)).trans' (Kept.drew _ _))⟩, by simp [intOf]⟩
          · rw [heap_drew, Go.heap_setCell_other _ _ _ _ (by simp; omega)]; exact hb0
          · rw [heap_drew, Go.heap_setCell_other _ _ _ _ (by simp)]; exact hb1
          · rw [heap_drew, Go.heap_setCell_same _ _ _ _ _ _ hq, HE.out, HX.out, ← HP.out.2]
            simp
        · rename_i _ h1 h2
          rw [HB.out, (HO2 (by omega)).out] at h2
          rw [HB.out, (HO2 (by omega)).out]
          have hlt : 2 * rv N d (m + 1) + bt N m < d := by simp at h2; omega
          refine ⟨⟨m, by omega, rfl, ?_, hb0, hb1, ?_, HW.out⟩, ?_⟩
          · rw [HD.out.2 hlt, (HS.out.2 hlt).1]
          · rw [(HS.out.2 hlt).2]; exact hq
          · simp [intOf]
end Go.Proofs.YthjiobmglebmdaaGreatDoor
