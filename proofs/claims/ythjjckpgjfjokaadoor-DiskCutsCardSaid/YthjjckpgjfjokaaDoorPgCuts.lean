/- DiskCuts: the walk. -/
import Derived.Test.YthjjckpgjfjokaaDoorPgCutsM
import Derived.Test.YthjjckpgjfjokaaDoorPgCut
import Derived.Test.YthjjckpgjfjokaaDoorPgDisk7
import Derived.Test.YthjjckpgjfjokaaDoorPgIs
namespace Go.Proofs.YthjjckpgjfjokaaDoor
open Go.RowKit

theorem DiskNew.typed {w wr : World} {inv : Dsk → Prop} {b : Nat} (h : DiskNew w inv b wr) (ht : Typed w) : Typed wr := by
  obtain ⟨_, _, _, _, _, hk⟩ := h
  exact ht.kept hk (fun f => f)

theorem code_of_fault' {w : World} {v : Value} {op : ByteArray} {id code : Int} {F : Nat → Prop} (h : FaultAt w v op id code F) (h1 : 1 ≤ code) (h2 : code ≤ 15) :
    Calls Tryd.prog 14 #[v] w fun e w' => e = .returned (.int .i64 code) ∧ w = w' := by
  obtain ⟨g, rfl, -, -, hb⟩ := h
  exact code_fault w g code (cell_at hb 2 _ rfl) h1 h2

set_option maxRecDepth 100000 in
set_option maxHeartbeats 2000000 in
theorem cuts_main (w : World) (n : Int) (m : Nat) (h0 : -5 ≤ n) (h1 : n ≤ 60) (h2 : m ≤ 80) (ht : Typed w) :
    Calls Tryd.prog 3 #[.int .i64 n, .int .i64 m] w (RetTrue w) := by
  have HT := Lib.hid ht
  have hmk := make64
  clear ht
  have b0 : decide (n < -5) = false := by simpa using h0
  have b1 : decide (60 < n) = false := by simpa using h1
  have b2 : decide ((m : Int) < 0) = false := by simp
  have b3 : decide (80 < (m : Int)) = false := by simp; omega
  go_enter Tryd.func3, Tryd.ntmps3
  go_wp2_with fail
  refine (disk_new w 100 (by omega) (by omega)).mono ?_
  rintro e w1 ⟨b, rfl, hD1, hk1⟩
  have HD1 := Lib.hid hD1
  have HK1 := Lib.hid hk1
  clear hD1 hk1
  go_wp2_with fail
  refine (disk_cut w1 b _ _ HD1.out n (by omega)).mono ?_
  rintro e w2 ⟨rfl, hD2, hk2⟩
  have HR0 : Hid (DiskNew w (CutInv n 0) b w2) := ⟨_, _, CutInv.fresh n, hD2, fun k h => h.1, HK1.out.from (Nat.le_refl _) (hk2.mono fun k _ h => by have := HD1.out.has; rw [show k = b from h]; exact this.1)⟩
  clear hD2 hk2 HD1 HK1
  go_wp2_with fail
  go_loopw [7] (fun i wr => ∃ j : Nat, j ≤ m ∧ i = .int .i64 j ∧ DiskNew w (CutInv n j) b wr) (fun i _ => m - (intOf i).toNat)
  case atStart => exact ⟨0, Nat.zero_le _, rfl, HR0.out⟩
  case round =>
    clear HR0
    obtain ⟨j, hj, rfl, hN⟩ := hrel
    have HTr := Lib.hid (hN.typed HT.out)
    have HN := Lib.hid hN
    by_cases hlt : j < m
    · have i1 : decide ((j : Int) < (m : Int)) = true := by simp; omega
      obtain ⟨d, F, hinv, hD, hnF, hk⟩ := hN
      have HI := Lib.hid hinv
      have HD := Lib.hid hD
      have HP := fun inv d' w1 w3 F3 q1 q2 q3 q4 => DiskNew.post (b := b) (inv := inv) (d' := d') (w1 := w1) (w3 := w3) (F3 := F3) hnF hk q1 q2 q3 q4
      have HPP := Lib.hid HP
      clear hD hnF hk HP hinv HN
      go_wp2_with fail
      refine (block_any wr 64 (by omega) j).mono ?_
      rintro e w3 ⟨g3, rfl, ho3, hk3⟩
      have HO3 := Lib.hid ho3
      have HK3 := Lib.hid hk3
      clear ho3 hk3
      go_wp2_with fail
      by_cases hjn : (j : Int) < n
      · have c1 : decide (n ≤ (j : Int)) = false := by simp; omega
        refine (disk_write w3 b d F (HD.out.kept HK3.out (fun _ _ f => f)) j (by rw [HI.out.len]; omega) _ (blockRow 64 j) _ HO3.out.reads ⟨blockRow_length _ _, blockRow_bytes _ _⟩ (fun k q1 q2 => by have := HD.out.under k q2; simp [From] at q1; omega) (by rw [HI.out.ops]; omega) (by rw [HI.out.goes]; simpa using hjn)).mono ?_
        rintro e w4 ⟨rfl, F4, hD4, hg4, hk4⟩
        have HN4 := Lib.hid (HPP.out (CutInv n (j + 1)) _ w3 w4 F4 HK3.out hD4 hg4 hk4 (HI.out.on hjn))
        have HO4 := disk_off w4 b _ F4 hD4
        rw [HI.out.off_on hjn] at HO4
        have HOff := Lib.hid HO4
        clear hD4 hg4 hk4 HO4
        go_wp2_with (first | (go_at_call 10; refine (is_none _ _ _).mono ?_; rintro e w' ⟨rfl, rfl⟩) | (go_at_call 11; refine HOff.out.mono ?_; rintro e w' ⟨rfl, rfl⟩))
        go_roundw
        case rel => exact ⟨j + 1, by omega, by go_num, HN4.out⟩
        case measure => simp [intOf]; omega
      · have c1 : decide (n ≤ (j : Int)) = true := by simp; omega
        refine (disk_write_off w3 b d F (HD.out.kept HK3.out (fun _ _ f => f)) j (by rw [HI.out.len]; omega) _ 64 (by rw [HI.out.ops]; omega) (by rw [HI.out.goes]; simpa using hjn)).mono ?_
        rintro e w4 ⟨g4, rfl, hf4, hD4, hk4⟩
        have HK4 := Lib.hid hk4
        have hT4 := (HPP.out (CutInv n (j + 1)) _ w3 w4 F HK3.out hD4 (Grows.refl F _) hk4 (HI.out.offed hjn)).typed HT.out
        have HJ := Lib.hid hjn
        have HIs0 := is_this w4 _ opWrite j 9 _ hf4 (by omega) (by omega) hT4
        unfold opWrite at HIs0
        have HIs := Lib.hid HIs0
        have HD4 := Lib.hid hD4
        clear hf4 hD4 hk4 hT4 HIs0 hjn
        go_wp2_with (go_at_call 10; refine HIs.out.mono ?_; rintro e w5 ⟨rfl, hk5⟩)
        have HO5 := disk_off w5 b _ F (HD4.out.kept hk5 (fun _ _ f => f))
        rw [HI.out.off_off (by have := HJ.out; omega)] at HO5
        have HOff := Lib.hid HO5
        have HN5 := Lib.hid (HPP.out (CutInv n (j + 1)) _ w3 w5 F HK3.out (HD4.out.kept hk5 (fun _ _ f => f)) (Grows.refl F _) (HK4.out.then hk5) (HI.out.offed (by have := HJ.out; omega)))
        clear hk5 HO5
        refine HOff.out.mono ?_
        rintro e w' ⟨rfl, rfl⟩
        go_wp2_with fail
        go_roundw
        case rel => exact ⟨j + 1, by omega, by go_num, HN5.out⟩
        case measure => simp [intOf]; omega
    · have hjm : j = m := by omega
      subst hjm
      clear hN
      have i1 : decide ((j : Int) < (j : Int)) = false := by simp
      go_wp2_with fail
      go_loopw [10] (fun i wr => ∃ k : Nat, k ≤ j ∧ i = .int .i64 k ∧ DiskNew w (CutInv n j) b wr) (fun i _ => j - (intOf i).toNat)
      case atStart => exact ⟨0, Nat.zero_le _, rfl, HN.out⟩
      case round =>
        clear HN HTr
        obtain ⟨k, hk, rfl, hN⟩ := hrel
        have HTr := Lib.hid (hN.typed HT.out)
        have HN := Lib.hid hN
        by_cases hlt : k < j
        · have i2 : decide ((k : Int) < (j : Int)) = true := by simp; omega
          obtain ⟨d, F, hinv, hD, hnF, hkp⟩ := hN
          have HI := Lib.hid hinv
          have HD := Lib.hid hD
          have HR := Lib.hid (disk_read wr b d F hD k (by rw [hinv.len]; omega))
          have HX := hinv.now k (by omega)
          have HP := fun w3 q => DiskNew.post (b := b) (inv := CutInv n j) (d' := d) (w1 := wr) (w3 := w3) (F3 := F) hnF hkp (Kept.refl Nob _) q (Grows.refl F _)
          have HPP := Lib.hid HP
          clear hD hnF hkp HP hinv
          by_cases hkn : (k : Int) < n
          · have c1 : decide ((k : Int) < n) = true := by simp; omega
            rw [if_pos ⟨hlt, hkn⟩] at HX
            rw [HX] at HR
            clear HX
            go_wp2_with fail
            refine HR.out.mono ?_
            rintro e w3 ⟨b3, c3, rfl, ho3, hk3⟩
            rw [blockRow_length] at ho3 ⊢
            have HO3 := Lib.hid ho3
            have HK3 := Lib.hid hk3
            clear ho3 hk3
            go_wp2_with fail
            refine (block_any _ 64 (by omega) k).mono ?_
            rintro e w4 ⟨g4, rfl, ho4, hk4⟩
            have HO4 := Lib.hid ho4
            have HK4 := Lib.hid (((Kept.alloc Nob w3 (.cells zero64 5))).then hk4)
            clear ho4 hk4
            go_wp2_with fail
            refine (bytes_rows _ _ _ (blockRow 64 k) (blockRow 64 k) _ _ (HO3.out.reads.kept HK4.out (fun _ _ f => f)) HO4.out.reads (blockRow_bytes _ _) (blockRow_bytes _ _) (by rw [blockRow_length]; omega) (by rw [blockRow_length]; omega)).mono ?_
            rintro e w5 ⟨r5, n5, rfl, hr5, rfl⟩
            obtain rfl : r5 = true := hr5.2 rfl
            clear hr5
            have HN5 := Lib.hid (HPP.out (w4.drewN n5) ((HD.out.kept HK3.out (fun _ _ f => f)).kept HK4.out (fun _ _ f => f) |>.kept (Kept.drewN Nob _ _) (fun _ _ f => f)) (((HK3.out.then HK4.out).then (Kept.drewN Nob _ _)).nob) HI.out)
            go_wp2_with fail
            go_roundw
            case rel => exact ⟨k + 1, by omega, by go_num, HN5.out⟩
            case measure => simp [intOf]; omega
          · have c1 : decide ((k : Int) < n) = false := by simp; omega
            rw [if_neg (fun q => hkn q.2)] at HX
            rw [HX] at HR
            clear HX
            go_wp2_with fail
            refine HR.out.mono ?_
            rintro e w3 ⟨b3, c3, rfl, ho3, hk3⟩
            have HO3 := Lib.hid (ho3.alloc (.cells zero64 5))
            have HZ := Lib.hid (own_zero64 w3)
            have HK3 := Lib.hid (hk3.then (Kept.alloc Nob w3 (.cells zero64 5)))
            clear ho3 hk3
            go_wp2_with fail
            refine (bytes_rows _ _ _ Dsk.zeroSector Dsk.zeroSector _ _ HO3.out.reads HZ.out.reads zeroSector_bytes zeroSector_bytes (by decide) (by decide)).mono ?_
            rintro e w5 ⟨r5, n5, rfl, hr5, rfl⟩
            obtain rfl : r5 = true := hr5.2 rfl
            clear hr5
            have HN5 := Lib.hid (HPP.out ((w3.alloc (.cells zero64 5)).drewN n5) ((HD.out.kept HK3.out (fun _ _ f => f)).kept (Kept.drewN Nob _ _) (fun _ _ f => f)) ((HK3.out.then (Kept.drewN Nob _ _)).nob) HI.out)
            go_wp2_with fail
            go_roundw
            case rel => exact ⟨k + 1, by omega, by go_num, HN5.out⟩
            case measure => simp [intOf]; omega
        · clear hN
          have hkj : k = j := by omega
          subst hkj
          obtain ⟨d, F, hinv, hD, hnF, hkp⟩ := HN.out
          have HI := Lib.hid hinv
          have HD := Lib.hid hD
          have HF := Lib.hid hnF
          have HK := Lib.hid hkp
          clear hinv hD hnF hkp HN
          go_wp2_with fail
          refine (disk_write_range wr b d F HD.out 200 (.inr (by rw [HI.out.len]; omega)) none 0 0).mono ?_
          rintro e w3 ⟨g3, rfl, hf3, hD3, hk3⟩
          have HF3 := Lib.hid hf3
          have HD3 := Lib.hid hD3
          have HK3 := Lib.hid (HK.out.from (Nat.le_refl _) (hk3.mono fun x _ h => HF.out x h))
          clear hf3 hD3 hk3
          go_wp2_with fail
          refine (code_of_fault' HF3.out (by omega) (by omega)).mono ?_
          rintro e w3' ⟨rfl, rfl⟩
          go_wp2_with fail
          refine (disk_write_arg w3 b d F HD3.out 1 (by rw [HI.out.len]; omega) none 0 0 (by omega)).mono ?_
          rintro e w4 ⟨g4, rfl, hf4, hD4, hk4⟩
          have HF4 := Lib.hid hf4
          have HD4 := Lib.hid hD4
          have HK4 := Lib.hid (HK3.out.from (Nat.le_refl _) (hk4.mono fun x _ h => HF.out x h))
          clear hf4 hD4 hk4
          go_wp2_with fail
          refine (code_of_fault' HF4.out (by omega) (by omega)).mono ?_
          rintro e w4' ⟨rfl, rfl⟩
          have HP0 := disk_ops w4 b d F HD4.out
          rw [HI.out.ops] at HP0
          have HP := Lib.hid HP0
          clear HP0
          go_wp2_with (go_at_call 15; refine HP.out.mono ?_; rintro e w' ⟨rfl, rfl⟩)
          refine (awake_true _).mono ?_
          rintro e w5 ⟨rfl, hk5⟩
          go_wp2_with fail
          go_ret
          exact ⟨rfl, HK4.out.then hk5⟩

/-- DiskCuts, of whatever numbers -/
theorem cuts_any (w : World) (n m : Int) (ht : Typed w) :
    Calls Tryd.prog 3 #[.int .i64 n, .int .i64 m] w (RetTrue w) := by
  by_cases h : n < -5 ∨ 60 < n ∨ m < 0 ∨ 80 < m
  · clear ht
    by_cases a1 : n < -5
    · clear h
      go_enter Tryd.func3, Tryd.ntmps3
      go_wp2_with (go_at_call 5; refine (awake_true w).mono ?_; rintro e w' ⟨rfl, hk⟩)
      go_ret
      exact ⟨rfl, hk⟩
    · by_cases a2 : 60 < n
      · clear h
        go_enter Tryd.func3, Tryd.ntmps3
        go_wp2_with (go_at_call 5; refine (awake_true w).mono ?_; rintro e w' ⟨rfl, hk⟩)
        go_ret
        exact ⟨rfl, hk⟩
      · by_cases a3 : m < 0
        · clear h
          go_enter Tryd.func3, Tryd.ntmps3
          go_wp2_with (go_at_call 5; refine (awake_true w).mono ?_; rintro e w' ⟨rfl, hk⟩)
          go_ret
          exact ⟨rfl, hk⟩
        · have a4 : 80 < m := by omega
          clear h
          go_enter Tryd.func3, Tryd.ntmps3
          go_wp2_with (go_at_call 5; refine (awake_true w).mono ?_; rintro e w' ⟨rfl, hk⟩)
          go_ret
          exact ⟨rfl, hk⟩
  · obtain ⟨k, rfl⟩ : ∃ k : Nat, m = k := ⟨m.toNat, by omega⟩
    exact cuts_main w n k (by omega) (by omega) (by omega) ht
end Go.Proofs.YthjjckpgjfjokaaDoor
