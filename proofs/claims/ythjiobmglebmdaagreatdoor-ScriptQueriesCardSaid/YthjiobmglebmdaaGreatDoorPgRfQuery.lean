/- The document's own queries, written. Printed by gen_rquery.py. -/
import Derived.Test.YthjiobmglebmdaaGreatDoorPgRfObj
namespace Go.Proofs.YthjiobmglebmdaaGreatDoor
open Go.RowKit
open Go.Proofs.YthjiobmglebmdaaGreatDoor.Geo Go.Proofs.YthjiobmglebmdaaGreatDoor.Txt

set_option maxRecDepth 100000 in
set_option maxHeartbeats 4000000 in
theorem ref_Query (w : World) (k x1 y1 x2 y2 : Int) (v : Value) (l : List Pt) (F : Nat → Prop) (h : PtsAt w v l F) (hl : l.length < 1000000000) :
    Calls Tryz.prog 25 #[.agg #[.int .i64 k, .int .i64 x1, .int .i64 y1, .int .i64 x2, .int .i64 y2, v]] w fun e w' => e = .returned (strV (qrText ⟨k, ⟨(x1, y1), (x2, y2)⟩, l⟩)) ∧ Kept Nob w w' := by
  obtain ⟨a, cap, rfl⟩ := h.shape
  have HP := Lib.hid h
  have HC := fun (wx : World) (kx : Kept Nob w wx) => Lib.hid (ref_CheckQuery wx k x1 y1 x2 y2 _ l F (h.nob kx) hl)
  clear h
  by_cases hok : QrOk ⟨k, ⟨(x1, y1), (x2, y2)⟩, l⟩
  case neg =>
    have HN : Hid (strV (qrText ⟨k, ⟨(x1, y1), (x2, y2)⟩, l⟩) = .string ⟨#[]⟩) := Lib.hid (by rw [qrText_no hok]; rfl)
    have HO := Lib.hid hok
    clear hok
    generalize QrOk ⟨k, ⟨(x1, y1), (x2, y2)⟩, l⟩ = p at *
    go_enter Tryz.func25, Tryz.ntmps25
    go_wp2_with fail
    refine (HC _ (Kept.alloc Nob _ _)).out.mono ?_
    rintro e w1 ⟨u, rfl, hu, hk⟩
    have HK := Lib.hid ((Kept.alloc Nob _ _).then hk)
    have hub : (u == 0) = false := beq_eq_false_iff_ne.2 (fun e => HO.out (hu.1 e))
    clear hu hk
    go_wp2_with fail
    go_ret
    exact ⟨by rw [HN.out]; rfl, HK.out⟩
  case pos =>
    have HO := Lib.hid hok
    have four := hok.four
    simp only at four
    rcases four with rfl | rfl | rfl | rfl
    · have hb := (qr12 (q := ⟨1, ⟨(x1, y1), (x2, y2)⟩, l⟩) (by simp)).1 hok
      have HTq := Lib.hid (qrText_is hok)
      have HP1 := fun (wx : World) => Lib.hid (ref_point wx x1 y1 hb.1)
      have hl1 := ptTxt_len hb.1
      obtain ⟨t1, ht1⟩ : ∃ u, (⟨(ptTxt (x1, y1)).toArray⟩ : ByteArray) = u := ⟨_, rfl⟩
      have s1 : t1.size ≤ 43 := by rw [← ht1]; simpa [ByteArray.size] using hl1
      have HT1 := Lib.hid ht1
      unfold strV at HP1
      rw [ht1] at HP1
      clear hl1 ht1
      have HP2 := fun (wx : World) => Lib.hid (ref_point wx x2 y2 hb.2.1)
      have hl2 := ptTxt_len hb.2.1
      obtain ⟨t2, ht2⟩ : ∃ u, (⟨(ptTxt (x2, y2)).toArray⟩ : ByteArray) = u := ⟨_, rfl⟩
      have s2 : t2.size ≤ 43 := by rw [← ht2]; simpa [ByteArray.size] using hl2
      have HT2 := Lib.hid ht2
      unfold strV at HP2
      rw [ht2] at HP2
      clear hl2 ht2
      have HTx : Hid (strV (qrText ⟨1, ⟨(x1, y1), (x2, y2)⟩, l⟩) = .string (((⟨#[109, 101, 101, 116, 115, 32]⟩ ++ t1) ++ ⟨#[32]⟩) ++ t2)) := Lib.hid (by
        rw [HTq.out, ← HT1.out, ← HT2.out]
        have e1 := strV_append [109, 101, 101, 116, 115, 32] (ptTxt (x1, y1))
        have e2 := strV_append ([109, 101, 101, 116, 115, 32] ++ ptTxt (x1, y1)) [32]
        have e3 := strV_append ([109, 101, 101, 116, 115, 32] ++ ptTxt (x1, y1) ++ [32]) (ptTxt (x2, y2))
        rw [show (⟨#[109, 101, 101, 116, 115, 32]⟩ : ByteArray) = ⟨[109, 101, 101, 116, 115, 32].toArray⟩ from rfl, show (⟨#[32]⟩ : ByteArray) = ⟨[32].toArray⟩ from rfl, e1, e2, e3]
        simp [strV, qrWords, wMeets, Lib.join_cons, Lib.joinTail])
      clear hok HP hb HTq
      go_enter Tryz.func25, Tryz.ntmps25
      go_wp2_with fail
      refine (HC _ (Kept.alloc Nob _ _)).out.mono ?_
      rintro e w1 ⟨u, rfl, hu, hk⟩
      obtain rfl : u = 0 := hu.2 HO.out
      have HB := Lib.hid hk
      have HK := Lib.hid ((Kept.alloc Nob _ _).then hk)
      have b1 := new1 hk
      have c0 := cell_at b1 0 _ rfl
      have c1 := cell_at b1 1 _ rfl
      have c2 := cell_at b1 2 _ rfl
      have c3 := cell_at b1 3 _ rfl
      have c4 := cell_at b1 4 _ rfl
      have c5 := cell_at b1 5 _ rfl
      clear hu hk b1
      go_wp2_with fail
      refine wp_region_held_drew (S := (fun W => Kept Nob w1 W)) (by kernel_rfl) ?_ (fun hHeld => ?_)
      · first | exact Kept.refl _ _ | exact Kept.drew _ _
      refine take_to (i := 0) (oi := _) (v := ?_) (some 10) rfl (by kernel_rfl) (by kernel_rfl) (by kernel_rfl) (by kernel_rfl) (fun _ _ _ h => h) (Or.inl ⟨by kernel_rfl, ?_⟩) (by assumption) ?_
      case refine_2 => (intro w hSw; (try dsimp only at hSw); go_simp; (try rw [if_neg (by omega)]); try with_reducible rfl)
      try simp only [Act.put, List.setIfInBounds_toArray, List.set_cons_zero, List.set_cons_succ]
      refine take_to (i := 1) (oi := _) (v := ?_) (some 11) rfl (by kernel_rfl) (by kernel_rfl) (by kernel_rfl) (by kernel_rfl) (fun _ _ _ h => h) (Or.inl ⟨by kernel_rfl, ?_⟩) (by assumption) ?_
      case refine_2 => (intro w hSw; (try dsimp only at hSw); go_simp; (try rw [if_neg (by omega)]); try with_reducible rfl)
      try simp only [Act.put, List.setIfInBounds_toArray, List.set_cons_zero, List.set_cons_succ]
      refine take_to (i := 2) (oi := _) (v := ?_) (some 12) rfl (by kernel_rfl) (by kernel_rfl) (by kernel_rfl) (by kernel_rfl) (fun _ _ _ h => h) (Or.inl ⟨by kernel_rfl, ?_⟩) (by assumption) ?_
      case refine_2 => (intro w hSw; (try dsimp only at hSw); have b0 := new1 (HB.out.then hSw); have cc0 := cell_at b0 0 _ rfl; have cc1 := cell_at b0 1 _ rfl; have cc2 := cell_at b0 2 _ rfl; have cc3 := cell_at b0 3 _ rfl; have cc4 := cell_at b0 4 _ rfl; clear b0; go_simp; (try rw [if_neg (by omega)]); try with_reducible rfl)
      try simp only [Act.put, List.setIfInBounds_toArray, List.set_cons_zero, List.set_cons_succ]
      refine take_to (i := 6) (oi := _) (v := ?_) (some 16) rfl (by kernel_rfl) (by kernel_rfl) (by kernel_rfl) (by kernel_rfl) (fun _ _ _ h => h) (Or.inl ⟨by kernel_rfl, ?_⟩) (by assumption) ?_
      case refine_2 => (intro w hSw; (try dsimp only at hSw); go_simp; (try rw [if_neg (by omega)]); try with_reducible rfl)
      try simp only [Act.put, List.setIfInBounds_toArray, List.set_cons_zero, List.set_cons_succ]
      refine take_to (i := 7) (oi := _) (v := ?_) (some 17) rfl (by kernel_rfl) (by kernel_rfl) (by kernel_rfl) (by kernel_rfl) (fun _ _ _ h => h) (Or.inl ⟨by kernel_rfl, ?_⟩) (by assumption) ?_
      case refine_2 => (intro w hSw; (try dsimp only at hSw); go_simp; (try rw [if_neg (by omega)]); try with_reducible rfl)
      try simp only [Act.put, List.setIfInBounds_toArray, List.set_cons_zero, List.set_cons_succ]
      refine take_to (i := 8) (oi := _) (v := ?_) (some 18) rfl (by kernel_rfl) (by kernel_rfl) (by kernel_rfl) (by kernel_rfl) (fun _ _ _ h => h) (Or.inl ⟨by kernel_rfl, ?_⟩) (by assumption) ?_
      case refine_2 => (intro w hSw; (try dsimp only at hSw); have b0 := new1 (HB.out.then hSw); have cc0 := cell_at b0 0 _ rfl; have cc1 := cell_at b0 1 _ rfl; have cc2 := cell_at b0 2 _ rfl; have cc3 := cell_at b0 3 _ rfl; have cc4 := cell_at b0 4 _ rfl; clear b0; go_simp; (try rw [if_neg (by omega)]); try with_reducible rfl)
      try simp only [Act.put, List.setIfInBounds_toArray, List.set_cons_zero, List.set_cons_succ]
      refine wpAnyH_ready (rs := [3]) (by kernel_rfl) (by simp) ?_
      refine AllReadyH.cons (o := _) rfl (fun K hK => ?_) AllReadyH.nil
      go_simp
      refine (HP1 _).out.mono ?_
      rintro e z1 ⟨rfl, hz1⟩
      try go_wp2_with fail
      refine hK.out _ _ (hHeld.then hz1) (fun hHeld => ?_)
      clear hK K
      try simp only [Act.put, List.setIfInBounds_toArray, List.set_cons_zero, List.set_cons_succ]
      refine take_to (i := 4) (oi := _) (v := ?_) (some 14) rfl (by kernel_rfl) (by kernel_rfl) (by kernel_rfl) (by kernel_rfl) (fun _ _ _ h => h) (Or.inl ⟨by kernel_rfl, ?_⟩) (by assumption) ?_
      case refine_2 => (intro w hSw; (try dsimp only at hSw); go_simp; (try rw [if_neg (by omega)]); try with_reducible rfl)
      try simp only [Act.put, List.setIfInBounds_toArray, List.set_cons_zero, List.set_cons_succ]
      refine take_to (i := 5) (oi := _) (v := ?_) (some 15) rfl (by kernel_rfl) (by kernel_rfl) (by kernel_rfl) (by kernel_rfl) (fun _ _ _ h => h) (Or.inl ⟨by kernel_rfl, ?_⟩) (by assumption) ?_
      case refine_2 => (intro w hSw; (try dsimp only at hSw); go_simp; (try rw [if_neg (by omega)]); try with_reducible rfl)
      try simp only [Act.put, List.setIfInBounds_toArray, List.set_cons_zero, List.set_cons_succ]
      refine wpAnyH_ready (rs := [9]) (by kernel_rfl) (by simp) ?_
      refine AllReadyH.cons (o := _) rfl (fun K hK => ?_) AllReadyH.nil
      go_simp
      refine (HP2 _).out.mono ?_
      rintro e z2 ⟨rfl, hz2⟩
      try go_wp2_with fail
      refine hK.out _ _ (hHeld.then hz2) (fun hHeld => ?_)
      clear hK K
      try simp only [Act.put, List.setIfInBounds_toArray, List.set_cons_zero, List.set_cons_succ]
      refine take_to (i := 10) (oi := _) (v := ?_) (some 20) rfl (by kernel_rfl) (by kernel_rfl) (by kernel_rfl) (by kernel_rfl) (fun _ _ _ h => h) (Or.inl ⟨by kernel_rfl, ?_⟩) (by assumption) ?_
      case refine_2 => (intro w hSw; (try dsimp only at hSw); go_simp; (try rw [if_neg (by omega)]); try with_reducible rfl)
      try simp only [Act.put, List.setIfInBounds_toArray, List.set_cons_zero, List.set_cons_succ]
      refine take_to (i := 11) (oi := _) (v := ?_) (some 2) rfl (by kernel_rfl) (by kernel_rfl) (by kernel_rfl) (by kernel_rfl) (fun _ _ _ h => h) (Or.inl ⟨by kernel_rfl, ?_⟩) (by assumption) ?_
      case refine_2 => (intro w hSw; (try dsimp only at hSw); go_simp; (try rw [if_neg (by omega)]); try with_reducible rfl)
      try simp only [Act.put, List.setIfInBounds_toArray, List.set_cons_zero, List.set_cons_succ]
      refine wpAnyH_done (by kernel_rfl) ?_ _
      go_wp2_with fail
      go_ret
      exact ⟨by rw [HTx.out]; rfl, HK.out.then hHeld⟩
    · have hb := (qr12 (q := ⟨2, ⟨(x1, y1), (x2, y2)⟩, l⟩) (by simp)).1 hok
      have HTq := Lib.hid (qrText_is hok)
      have HP1 := fun (wx : World) => Lib.hid (ref_point wx x1 y1 hb.1)
      have hl1 := ptTxt_len hb.1
      obtain ⟨t1, ht1⟩ : ∃ u, (⟨(ptTxt (x1, y1)).toArray⟩ : ByteArray) = u := ⟨_, rfl⟩
      have s1 : t1.size ≤ 43 := by rw [← ht1]; simpa [ByteArray.size] using hl1
      have HT1 := Lib.hid ht1
      unfold strV at HP1
      rw [ht1] at HP1
      clear hl1 ht1
      have HP2 := fun (wx : World) => Lib.hid (ref_point wx x2 y2 hb.2.1)
      have hl2 := ptTxt_len hb.2.1
      obtain ⟨t2, ht2⟩ : ∃ u, (⟨(ptTxt (x2, y2)).toArray⟩ : ByteArray) = u := ⟨_, rfl⟩
      have s2 : t2.size ≤ 43 := by rw [← ht2]; simpa [ByteArray.size] using hl2
      have HT2 := Lib.hid ht2
      unfold strV at HP2
      rw [ht2] at HP2
      clear hl2 ht2
      have HTx : Hid (strV (qrText ⟨2, ⟨(x1, y1), (x2, y2)⟩, l⟩) = .string (((⟨#[105, 110, 115, 105, 100, 101, 32]⟩ ++ t1) ++ ⟨#[32]⟩) ++ t2)) := Lib.hid (by
        rw [HTq.out, ← HT1.out, ← HT2.out]
        have e1 := strV_append [105, 110, 115, 105, 100, 101, 32] (ptTxt (x1, y1))
        have e2 := strV_append ([105, 110, 115, 105, 100, 101, 32] ++ ptTxt (x1, y1)) [32]
        have e3 := strV_append ([105, 110, 115, 105, 100, 101, 32] ++ ptTxt (x1, y1) ++ [32]) (ptTxt (x2, y2))
        rw [show (⟨#[105, 110, 115, 105, 100, 101, 32]⟩ : ByteArray) = ⟨[105, 110, 115, 105, 100, 101, 32].toArray⟩ from rfl, show (⟨#[32]⟩ : ByteArray) = ⟨[32].toArray⟩ from rfl, e1, e2, e3]
        simp [strV, qrWords, wInside, Lib.join_cons, Lib.joinTail])
      clear hok HP hb HTq
      go_enter Tryz.func25, Tryz.ntmps25
      go_wp2_with fail
      refine (HC _ (Kept.alloc Nob _ _)).out.mono ?_
      rintro e w1 ⟨u, rfl, hu, hk⟩
      obtain rfl : u = 0 := hu.2 HO.out
      have HB := Lib.hid hk
      have HK := Lib.hid ((Kept.alloc Nob _ _).then hk)
      have b1 := new1 hk
      have c0 := cell_at b1 0 _ rfl
      have c1 := cell_at b1 1 _ rfl
      have c2 := cell_at b1 2 _ rfl
      have c3 := cell_at b1 3 _ rfl
      have c4 := cell_at b1 4 _ rfl
      have c5 := cell_at b1 5 _ rfl
      clear hu hk b1
      go_wp2_with fail
      refine wp_region_held_drew (S := (fun W => Kept Nob w1 W)) (by kernel_rfl) ?_ (fun hHeld => ?_)
      · first | exact Kept.refl _ _ | exact Kept.drew _ _
      refine take_to (i := 0) (oi := _) (v := ?_) (some 23) rfl (by kernel_rfl) (by kernel_rfl) (by kernel_rfl) (by kernel_rfl) (fun _ _ _ h => h) (Or.inl ⟨by kernel_rfl, ?_⟩) (by assumption) ?_
      case refine_2 => (intro w hSw; (try dsimp only at hSw); go_simp; (try rw [if_neg (by omega)]); try with_reducible rfl)
      try simp only [Act.put, List.setIfInBounds_toArray, List.set_cons_zero, List.set_cons_succ]
      refine take_to (i := 1) (oi := _) (v := ?_) (some 24) rfl (by kernel_rfl) (by kernel_rfl) (by kernel_rfl) (by kernel_rfl) (fun _ _ _ h => h) (Or.inl ⟨by kernel_rfl, ?_⟩) (by assumption) ?_
      case refine_2 => (intro w hSw; (try dsimp only at hSw); go_simp; (try rw [if_neg (by omega)]); try with_reducible rfl)
      try simp only [Act.put, List.setIfInBounds_toArray, List.set_cons_zero, List.set_cons_succ]
      refine take_to (i := 2) (oi := _) (v := ?_) (some 25) rfl (by kernel_rfl) (by kernel_rfl) (by kernel_rfl) (by kernel_rfl) (fun _ _ _ h => h) (Or.inl ⟨by kernel_rfl, ?_⟩) (by assumption) ?_
      case refine_2 => (intro w hSw; (try dsimp only at hSw); have b0 := new1 (HB.out.then hSw); have cc0 := cell_at b0 0 _ rfl; have cc1 := cell_at b0 1 _ rfl; have cc2 := cell_at b0 2 _ rfl; have cc3 := cell_at b0 3 _ rfl; have cc4 := cell_at b0 4 _ rfl; clear b0; go_simp; (try rw [if_neg (by omega)]); try with_reducible rfl)
      try simp only [Act.put, List.setIfInBounds_toArray, List.set_cons_zero, List.set_cons_succ]
      refine take_to (i := 6) (oi := _) (v := ?_) (some 29) rfl (by kernel_rfl) (by kernel_rfl) (by kernel_rfl) (by kernel_rfl) (fun _ _ _ h => h) (Or.inl ⟨by kernel_rfl, ?_⟩) (by assumption) ?_
      case refine_2 => (intro w hSw; (try dsimp only at hSw); go_simp; (try rw [if_neg (by omega)]); try with_reducible rfl)
      try simp only [Act.put, List.setIfInBounds_toArray, List.set_cons_zero, List.set_cons_succ]
      refine take_to (i := 7) (oi := _) (v := ?_) (some 30) rfl (by kernel_rfl) (by kernel_rfl) (by kernel_rfl) (by kernel_rfl) (fun _ _ _ h => h) (Or.inl ⟨by kernel_rfl, ?_⟩) (by assumption) ?_
      case refine_2 => (intro w hSw; (try dsimp only at hSw); go_simp; (try rw [if_neg (by omega)]); try with_reducible rfl)
      try simp only [Act.put, List.setIfInBounds_toArray, List.set_cons_zero, List.set_cons_succ]
      refine take_to (i := 8) (oi := _) (v := ?_) (some 31) rfl (by kernel_rfl) (by kernel_rfl) (by kernel_rfl) (by kernel_rfl) (fun _ _ _ h => h) (Or.inl ⟨by kernel_rfl, ?_⟩) (by assumption) ?_
      case refine_2 => (intro w hSw; (try dsimp only at hSw); have b0 := new1 (HB.out.then hSw); have cc0 := cell_at b0 0 _ rfl; have cc1 := cell_at b0 1 _ rfl; have cc2 := cell_at b0 2 _ rfl; have cc3 := cell_at b0 3 _ rfl; have cc4 := cell_at b0 4 _ rfl; clear b0; go_simp; (try rw [if_neg (by omega)]); try with_reducible rfl)
      try simp only [Act.put, List.setIfInBounds_toArray, List.set_cons_zero, List.set_cons_succ]
      refine wpAnyH_ready (rs := [3]) (by kernel_rfl) (by simp) ?_
      refine AllReadyH.cons (o := _) rfl (fun K hK => ?_) AllReadyH.nil
      go_simp
      refine (HP1 _).out.mono ?_
      rintro e z1 ⟨rfl, hz1⟩
      try go_wp2_with fail
      refine hK.out _ _ (hHeld.then hz1) (fun hHeld => ?_)
      clear hK K
      try simp only [Act.put, List.setIfInBounds_toArray, List.set_cons_zero, List.set_cons_succ]
      refine take_to (i := 4) (oi := _) (v := ?_) (some 27) rfl (by kernel_rfl) (by kernel_rfl) (by kernel_rfl) (by kernel_rfl) (fun _ _ _ h => h) (Or.inl ⟨by kernel_rfl, ?_⟩) (by assumption) ?_
      case refine_2 => (intro w hSw; (try dsimp only at hSw); go_simp; (try rw [if_neg (by omega)]); try with_reducible rfl)
      try simp only [Act.put, List.setIfInBounds_toArray, List.set_cons_zero, List.set_cons_succ]
      refine take_to (i := 5) (oi := _) (v := ?_) (some 28) rfl (by kernel_rfl) (by kernel_rfl) (by kernel_rfl) (by kernel_rfl) (fun _ _ _ h => h) (Or.inl ⟨by kernel_rfl, ?_⟩) (by assumption) ?_
      case refine_2 => (intro w hSw; (try dsimp only at hSw); go_simp; (try rw [if_neg (by omega)]); try with_reducible rfl)
      try simp only [Act.put, List.setIfInBounds_toArray, List.set_cons_zero, List.set_cons_succ]
      refine wpAnyH_ready (rs := [9]) (by kernel_rfl) (by simp) ?_
      refine AllReadyH.cons (o := _) rfl (fun K hK => ?_) AllReadyH.nil
      go_simp
      refine (HP2 _).out.mono ?_
      rintro e z2 ⟨rfl, hz2⟩
      try go_wp2_with fail
      refine hK.out _ _ (hHeld.then hz2) (fun hHeld => ?_)
      clear hK K
      try simp only [Act.put, List.setIfInBounds_toArray, List.set_cons_zero, List.set_cons_succ]
      refine take_to (i := 10) (oi := _) (v := ?_) (some 33) rfl (by kernel_rfl) (by kernel_rfl) (by kernel_rfl) (by kernel_rfl) (fun _ _ _ h => h) (Or.inl ⟨by kernel_rfl, ?_⟩) (by assumption) ?_
      case refine_2 => (intro w hSw; (try dsimp only at hSw); go_simp; (try rw [if_neg (by omega)]); try with_reducible rfl)
      try simp only [Act.put, List.setIfInBounds_toArray, List.set_cons_zero, List.set_cons_succ]
      refine take_to (i := 11) (oi := _) (v := ?_) (some 2) rfl (by kernel_rfl) (by kernel_rfl) (by kernel_rfl) (by kernel_rfl) (fun _ _ _ h => h) (Or.inl ⟨by kernel_rfl, ?_⟩) (by assumption) ?_
      case refine_2 => (intro w hSw; (try dsimp only at hSw); go_simp; (try rw [if_neg (by omega)]); try with_reducible rfl)
      try simp only [Act.put, List.setIfInBounds_toArray, List.set_cons_zero, List.set_cons_succ]
      refine wpAnyH_done (by kernel_rfl) ?_ _
      go_wp2_with fail
      go_ret
      exact ⟨by rw [HTx.out]; rfl, HK.out.then hHeld⟩
    · have hb := (qr3 (q := ⟨3, ⟨(x1, y1), (x2, y2)⟩, l⟩) rfl).1 hok
      have HTq := Lib.hid (qrText_is hok)
      have HP1 := fun (wx : World) => Lib.hid (ref_point wx x1 y1 hb)
      have hl1 := ptTxt_len hb
      obtain ⟨t1, ht1⟩ : ∃ u, (⟨(ptTxt (x1, y1)).toArray⟩ : ByteArray) = u := ⟨_, rfl⟩
      have s1 : t1.size ≤ 43 := by rw [← ht1]; simpa [ByteArray.size] using hl1
      have HT1 := Lib.hid ht1
      unfold strV at HP1
      rw [ht1] at HP1
      clear hl1 ht1
      have HTx : Hid (strV (qrText ⟨3, ⟨(x1, y1), (x2, y2)⟩, l⟩) = .string (⟨#[104, 97, 115, 32]⟩ ++ t1)) := Lib.hid (by
        rw [HTq.out, ← HT1.out]
        have e1 := strV_append [104, 97, 115, 32] (ptTxt (x1, y1))
        rw [show (⟨#[104, 97, 115, 32]⟩ : ByteArray) = ⟨[104, 97, 115, 32].toArray⟩ from rfl, e1]
        simp [strV, qrWords, wHas, Lib.join_cons, Lib.joinTail])
      clear hok HP hb HTq
      go_enter Tryz.func25, Tryz.ntmps25
      go_wp2_with fail
      refine (HC _ (Kept.alloc Nob _ _)).out.mono ?_
      rintro e w1 ⟨u, rfl, hu, hk⟩
      obtain rfl : u = 0 := hu.2 HO.out
      have HB := Lib.hid hk
      have HK := Lib.hid ((Kept.alloc Nob _ _).then hk)
      have b1 := new1 hk
      have c0 := cell_at b1 0 _ rfl
      have c1 := cell_at b1 1 _ rfl
      have c2 := cell_at b1 2 _ rfl
      have c3 := cell_at b1 3 _ rfl
      have c4 := cell_at b1 4 _ rfl
      have c5 := cell_at b1 5 _ rfl
      clear hu hk b1
      go_wp2_with fail
      refine (HP1 _).out.mono ?_
      rintro e z1 ⟨rfl, hz1⟩
      have HKz := Lib.hid (HK.out.then hz1)
      clear hz1
      go_wp2_with fail
      go_ret
      exact ⟨by rw [HTx.out]; rfl, HKz.out⟩
    · have hb := (qr4 (q := ⟨4, ⟨(x1, y1), (x2, y2)⟩, l⟩) rfl).1 hok
      have HTq := Lib.hid (qrText_is hok)
      have HR := fun (wx : World) (kx : Kept Nob w wx) => Lib.hid (ref_rows wx _ l F (HP.out.nob kx) hb.2.1 hb.2.2.1)
      have hrs := rows_len hb.2.1 hb.2.2.1 l.length
      rw [List.take_length] at hrs
      obtain ⟨xv, hxv⟩ : ∃ u, (⟨(rowsTxt l).toArray⟩ : ByteArray) = u := ⟨_, rfl⟩
      have hxs : xv.size ≤ 5000 := by rw [← hxv]; simpa [ByteArray.size] using hrs
      have HTx : Hid (strV (qrText ⟨4, ⟨(x1, y1), (x2, y2)⟩, l⟩) = .string (⟨#[99, 114, 111, 115, 115]⟩ ++ xv)) := Lib.hid (by
        rw [HTq.out, ← hxv]
        have e1 := strV_append [99, 114, 111, 115, 115] (rowsTxt l)
        rw [show (⟨#[99, 114, 111, 115, 115]⟩ : ByteArray) = ⟨[99, 114, 111, 115, 115].toArray⟩ from rfl, e1]
        simp [strV, qrWords, wCross, Lib.join_cons, rowsTxt])
      unfold strV at HR
      rw [hxv] at HR
      clear hok HP hb HTq hrs hxv
      go_enter Tryz.func25, Tryz.ntmps25
      go_wp2_with fail
      refine (HC _ (Kept.alloc Nob _ _)).out.mono ?_
      rintro e w1 ⟨u, rfl, hu, hk⟩
      obtain rfl : u = 0 := hu.2 HO.out
      have HB := Lib.hid hk
      have HK := Lib.hid ((Kept.alloc Nob _ _).then hk)
      have b1 := new1 hk
      have c0 := cell_at b1 0 _ rfl
      have c1 := cell_at b1 1 _ rfl
      have c2 := cell_at b1 2 _ rfl
      have c3 := cell_at b1 3 _ rfl
      have c4 := cell_at b1 4 _ rfl
      have c5 := cell_at b1 5 _ rfl
      clear hu hk b1
      go_wp2_with fail
      refine (HR _ HK.out).out.mono ?_
      rintro e z1 ⟨rfl, hz1⟩
      have HKz := Lib.hid (HK.out.then hz1)
      clear hz1
      go_wp2_with fail
      go_ret
      exact ⟨by rw [HTx.out]; rfl, HKz.out⟩
end Go.Proofs.YthjiobmglebmdaaGreatDoor
