/- pergolalaw10.awake. -/
import Derived.Test.YthjjckpgjfjokaaDoorPgDisk6
import Derived.Test.YthjjckpgjfjokaaDoorPgAlike
import Derived.Test.YthjjckpgjfjokaaDoorPgRet
namespace Go.Proofs.YthjjckpgjfjokaaDoor
open Go.RowKit

theorem awake_plain1 : (((Dsk.fresh 2).begun.put 0 (blockRow 64 1)).crash [true] (-1)).now.getD 0 [] = blockRow 64 1 := rfl
theorem awake_plain2 : (((Dsk.fresh 2).begun.put 0 (blockRow 64 1)).crash [] (-1)).now.getD 0 [] = Dsk.zeroSector := rfl
set_option maxHeartbeats 1000000 in
theorem awake_true (w : World) : Calls Tryd.prog 5 #[] w (RetTrue w) := by
  have hmk := make64
  go_enter Tryd.func5, Tryd.ntmps5
  go_wp2_with fail
  refine (disk_new w 2 (by omega) (by omega)).mono ?_
  rintro e w1 ⟨b, rfl, hD1, hk1⟩
  have HD1 := Lib.hid hD1
  have HK1 := Lib.hid hk1
  clear hD1 hk1
  go_wp2_with fail
  refine (block_any w1 64 (by omega) 1).mono ?_
  rintro e w2 ⟨g2, rfl, ho2, hk2⟩
  have HO2 := Lib.hid ho2
  have HK2 := Lib.hid hk2
  have HD2 := Lib.hid (HD1.out.kept hk2 (fun _ _ f => f))
  clear ho2 hk2
  go_wp2_with fail
  refine (disk_write w2 b (Dsk.fresh 2) _ HD2.out 0 (by decide) _ (blockRow 64 1) (From w1.heap.size) HO2.out.reads ⟨blockRow_length _ _, blockRow_bytes _ _⟩ (fun k h1 h2 => by simp [From] at h1; omega) (by decide) rfl).mono ?_
  rintro e w3 ⟨rfl, F3, hD3, hg3, hk3⟩
  have HD3 := Lib.hid hD3
  have HK3 := Lib.hid hk3
  clear hD3 hk3 hg3
  go_wp2_with fail
  refine (disk_crash _ b _ F3 (HD3.out.kept (Kept.alloc Nob _ _) (fun _ _ f => f)) _ [true] (fun _ => True) (.inr ⟨w3.heap.size, 0, 1, rfl, by simp, by simp, trivial, fun i x hx => ?_⟩) (by simp) (-1)).mono ?_
  · match i, hx with
    | 0, hx => simp at hx; subst hx; simp
  rintro e w4 ⟨b4, rfl, hD4, hk4⟩
  have HD4 := Lib.hid hD4
  have HK4 := Lib.hid hk4
  have HD3' := Lib.hid ((HD3.out.kept (Kept.alloc Nob w3 (.cells #[.bool true] 4)) (fun _ _ f => f)).kept hk4 (fun _ _ f => f))
  clear hD4 hk4
  go_wp2_with fail
  refine (disk_read w4 b4 _ _ HD4.out 0 (by decide)).mono ?_
  rintro e w5 ⟨b5, c5, rfl, ho5, hk5⟩
  rw [awake_plain1] at ho5
  have HO5 := Lib.hid ho5
  have HK5 := Lib.hid hk5
  have HD5 := Lib.hid (HD3'.out.kept hk5 (fun _ _ f => f))
  clear ho5 hk5
  go_wp2_with fail
  refine (disk_crash _ b _ F3 HD5.out _ [] (fun _ => True) (.inl ⟨rfl, none, 0, rfl, fun _ => rfl⟩) (by simp) (-1)).mono ?_
  rintro e w6 ⟨b6, rfl, hD6, hk6⟩
  have HD6 := Lib.hid hD6
  have HK6 := Lib.hid hk6
  clear hD6 hk6
  go_wp2_with fail
  refine (disk_read w6 b6 _ _ HD6.out 0 (by decide)).mono ?_
  rintro e w7 ⟨b7, c7, rfl, ho7, hk7⟩
  rw [awake_plain2] at ho7
  have HO7 := Lib.hid ho7
  have HK7 := Lib.hid hk7
  clear ho7 hk7
  go_wp2_with fail
  refine (block_any w7 64 (by omega) 1).mono ?_
  rintro e w8 ⟨g8, rfl, ho8, hk8⟩
  have HO8 := Lib.hid ho8
  have HK8 := Lib.hid hk8
  have HO5' := Lib.hid (((HO5.out.kept HK6.out (fun _ _ f => f)).kept HK7.out (fun _ _ f => f)).kept hk8 (fun _ _ f => f))
  have HO7' := Lib.hid (HO7.out.kept hk8 (fun _ _ f => f))
  clear ho8 hk8
  go_wp2_with fail
  refine (bytes_rows w8 _ _ (blockRow 64 1) (blockRow 64 1) _ _ HO5'.out.reads HO8.out.reads (blockRow_bytes _ _) (blockRow_bytes _ _) (by rw [blockRow_length]; omega) (by rw [blockRow_length]; omega)).mono ?_
  rintro e w9 ⟨r9, n9, rfl, hr9, rfl⟩
  obtain rfl : r9 = true := hr9.2 rfl
  clear hr9
  go_wp2_with fail
  refine (bytes_rows _ _ _ Dsk.zeroSector Dsk.zeroSector _ _ (((HO7'.out.reads).kept (Kept.drewN Nob w8 n9) (fun _ _ f => f)).alloc _) (own_zero64 _).reads zeroSector_bytes zeroSector_bytes (by decide) (by decide)).mono ?_
  rintro e w10 ⟨r10, n10, rfl, hr10, rfl⟩
  obtain rfl : r10 = true := hr10.2 rfl
  clear hr10
  go_wp2_with fail
  go_ret
  refine ⟨rfl, ?_⟩
  have k1 := HK1.out.then HK2.out
  have k2 : Kept Nob w w3 := k1.from (n := w.heap.size) (Nat.le_refl _) (HK3.out.mono fun x _ hx => hx.1)
  have k3 : Kept Nob w w4 := (k2.then (Kept.alloc Nob _ _)).then HK4.out
  have k4 := ((((k3.then HK5.out).then HK6.out).then HK7.out).then HK8.out)
  exact ((k4.then (Kept.drewN Nob w8 n9)).then (Kept.alloc Nob _ _)).then (Kept.drewN Nob _ n10)
end Go.Proofs.YthjjckpgjfjokaaDoor
