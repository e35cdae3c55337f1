/- segm: do two segments cross, do they meet. Printed by gen_meet.py. -/
import Derived.Test.YthjiobmglebmdaaGreatDoorPgScSegm
namespace Go.Proofs.YthjiobmglebmdaaGreatDoor
open Go.RowKit
open Go.Proofs.YthjiobmglebmdaaGreatDoor.Geo

theorem sg_cases (x : Int) : sg x = -1 ∨ sg x = 0 ∨ sg x = 1 := by
  unfold sg
  by_cases a : x < 0
  · rw [if_pos a]; omega
  · rw [if_neg a]
    by_cases b : 0 < x
    · rw [if_pos b]; omega
    · rw [if_neg b]; omega
theorem sg_mul (x y : Int) : wrap64 (sg x * sg y) = sg x * sg y := by
  rcases sg_cases x with h | h | h <;> rcases sg_cases y with k | k | k <;> (rw [h, k]; exact IntWalk.wrap64_in _ (by omega))
theorem sg_mul' (x y : Int) : IntKind.i64.wrap (sg x * sg y) = sg x * sg y := by
  rcases sg_cases x with h | h | h <;> rcases sg_cases y with k | k | k <;> (rw [h, k]; decide)
set_option maxRecDepth 100000 in
set_option maxHeartbeats 4000000 in
theorem segm_proper (w : World) (x1 y1 x2 y2 x3 y3 x4 y4 : Int) (h1 : ok (x1, y1) = true) (h2 : ok (x2, y2) = true) (h3 : ok (x3, y3) = true) (h4 : ok (x4, y4) = true) :
    Calls Tryz.prog 152 #[.agg #[.int .i64 x1, .int .i64 y1], .agg #[.int .i64 x2, .int .i64 y2], .agg #[.int .i64 x3, .int .i64 y3], .agg #[.int .i64 x4, .int .i64 y4]] w fun e w' => e = .returned (.bool (proper (x1, y1) (x2, y2) (x3, y3) (x4, y4))) ∧ Kept Nob w w' := by
  have HM := fun (wx : World) g hg => Lib.hid (smay_drew [(x1, y1), (x2, y2), (x3, y3), (x4, y4)] 4 #[.int .i64 x1, .int .i64 y1, .int .i64 x2, .int .i64 y2, .int .i64 x3, .int .i64 y3, .int .i64 x4, .int .i64 y4] (by simp [h1, h2, h3, h4]) rfl (by omega) rfl wx g hg)
  have HO1 := fun (wx : World) => Lib.hid (plane_orient wx x1 y1 x2 y2 x3 y3 h1 h2 h3)
  have HO2 := fun (wx : World) => Lib.hid (plane_orient wx x1 y1 x2 y2 x4 y4 h1 h2 h4)
  have HO3 := fun (wx : World) => Lib.hid (plane_orient wx x3 y3 x4 y4 x1 y1 h3 h4 h1)
  have HO4 := fun (wx : World) => Lib.hid (plane_orient wx x3 y3 x4 y4 x2 y2 h3 h4 h2)
  obtain ⟨r, hr⟩ : ∃ r, proper (x1, y1) (x2, y2) (x3, y3) (x4, y4) = r := ⟨_, rfl⟩
  rw [hr]
  unfold proper at hr
  have hw1 := sg_mul (cr (x1, y1) (x2, y2) (x3, y3)) (cr (x1, y1) (x2, y2) (x4, y4))
  have hw2 := sg_mul (cr (x3, y3) (x4, y4) (x1, y1)) (cr (x3, y3) (x4, y4) (x2, y2))
  have hv1 := sg_mul' (cr (x1, y1) (x2, y2) (x3, y3)) (cr (x1, y1) (x2, y2) (x4, y4))
  have hv2 := sg_mul' (cr (x3, y3) (x4, y4) (x1, y1)) (cr (x3, y3) (x4, y4) (x2, y2))
  generalize sg (cr (x1, y1) (x2, y2) (x3, y3)) = s1 at *
  generalize sg (cr (x1, y1) (x2, y2) (x4, y4)) = s2 at *
  generalize sg (cr (x3, y3) (x4, y4) (x1, y1)) = s3 at *
  generalize sg (cr (x3, y3) (x4, y4) (x2, y2)) = s4 at *
  have HR := Lib.hid hr
  clear h1 h2 h3 h4 hr
  go_enter Tryz.func152, Tryz.ntmps152
  by_cases d1 : s1 * s2 < 0
  · have hd1 : decide (s1 * s2 < 0) = true := decide_eq_true d1
    go_wp2_with fail
    refine wp_region_held_drew (S := (fun w' => Kept Nob ((((w.alloc (.cells #[.int .i64 x1, .int .i64 y1] 42)).alloc (.cells #[.int .i64 x2, .int .i64 y2] 42)).alloc (.cells #[.int .i64 x3, .int .i64 y3] 42)).alloc (.cells #[.int .i64 x4, .int .i64 y4] 42)) w')) (by kernel_rfl) ?_ (fun hHeld => ?_)
    · first | assumption | exact Kept.drew _ _
    refine take_to (i := 0) (oi := _) (v := ?_) (some 9) rfl (by kernel_rfl) (by kernel_rfl) (by kernel_rfl) (by kernel_rfl) (fun _ _ _ h => h) (Or.inl ⟨by kernel_rfl, ?_⟩) (by assumption) ?_
    case refine_2 => (intro w hSw; (try dsimp only at hSw); (obtain ⟨q1, q2, q3, q4⟩ := new4 hSw; have c1a := cell_at q1 0 _ rfl; have c1b := cell_at q1 1 _ rfl; have c2a := cell_at q2 0 _ rfl; have c2b := cell_at q2 1 _ rfl; have c3a := cell_at q3 0 _ rfl; have c3b := cell_at q3 1 _ rfl; have c4a := cell_at q4 0 _ rfl; have c4b := cell_at q4 1 _ rfl); go_simp; try with_reducible rfl)
    try simp only [Act.put, List.setIfInBounds_toArray, List.set_cons_zero, List.set_cons_succ]
    refine take_to (i := 1) (oi := _) (v := ?_) (some 10) rfl (by kernel_rfl) (by kernel_rfl) (by kernel_rfl) (by kernel_rfl) (fun _ _ _ h => h) (Or.inl ⟨by kernel_rfl, ?_⟩) (by assumption) ?_
    case refine_2 => (intro w hSw; (try dsimp only at hSw); (obtain ⟨q1, q2, q3, q4⟩ := new4 hSw; have c1a := cell_at q1 0 _ rfl; have c1b := cell_at q1 1 _ rfl; have c2a := cell_at q2 0 _ rfl; have c2b := cell_at q2 1 _ rfl; have c3a := cell_at q3 0 _ rfl; have c3b := cell_at q3 1 _ rfl; have c4a := cell_at q4 0 _ rfl; have c4b := cell_at q4 1 _ rfl); go_simp; try with_reducible rfl)
    try simp only [Act.put, List.setIfInBounds_toArray, List.set_cons_zero, List.set_cons_succ]
    refine take_to (i := 2) (oi := _) (v := ?_) (some 11) rfl (by kernel_rfl) (by kernel_rfl) (by kernel_rfl) (by kernel_rfl) (fun _ _ _ h => h) (Or.inl ⟨by kernel_rfl, ?_⟩) (by assumption) ?_
    case refine_2 => (intro w hSw; (try dsimp only at hSw); (obtain ⟨q1, q2, q3, q4⟩ := new4 hSw; have c1a := cell_at q1 0 _ rfl; have c1b := cell_at q1 1 _ rfl; have c2a := cell_at q2 0 _ rfl; have c2b := cell_at q2 1 _ rfl; have c3a := cell_at q3 0 _ rfl; have c3b := cell_at q3 1 _ rfl; have c4a := cell_at q4 0 _ rfl; have c4b := cell_at q4 1 _ rfl); go_simp; try with_reducible rfl)
    try simp only [Act.put, List.setIfInBounds_toArray, List.set_cons_zero, List.set_cons_succ]
    refine take_to (i := 3) (oi := _) (v := ?_) (some 12) rfl (by kernel_rfl) (by kernel_rfl) (by kernel_rfl) (by kernel_rfl) (fun _ _ _ h => h) (Or.inl ⟨by kernel_rfl, ?_⟩) (by assumption) ?_
    case refine_2 => (intro w hSw; (try dsimp only at hSw); (obtain ⟨q1, q2, q3, q4⟩ := new4 hSw; have c1a := cell_at q1 0 _ rfl; have c1b := cell_at q1 1 _ rfl; have c2a := cell_at q2 0 _ rfl; have c2b := cell_at q2 1 _ rfl; have c3a := cell_at q3 0 _ rfl; have c3b := cell_at q3 1 _ rfl; have c4a := cell_at q4 0 _ rfl; have c4b := cell_at q4 1 _ rfl); go_simp; try with_reducible rfl)
    try simp only [Act.put, List.setIfInBounds_toArray, List.set_cons_zero, List.set_cons_succ]
    refine wpAnyH_ready (rs := [4]) (by kernel_rfl) (by simp) ?_
    refine AllReadyH.cons (o := _) rfl (fun K hK => ?_) AllReadyH.nil
    go_simp
    refine hK.out _ _ (hHeld.then (Kept.alloc Nob _ _)) (fun hHeld => ?_)
    clear hK K
    try simp only [Act.put, List.setIfInBounds_toArray, List.set_cons_zero, List.set_cons_succ]
    refine wpAnyH_ready (rs := [5]) (by kernel_rfl) (by simp) ?_
    refine AllReadyH.cons (o := _) rfl (fun K hK => ?_) AllReadyH.nil
    go_simp
    go_at_call 148
    refine (HM _ _ (by simp)).out.mono ?_
    rintro e w1 ⟨rfl, hk1⟩
    try go_wp2_with fail
    refine hK.out _ _ (hk1) (fun hHeld => ?_)
    clear hK K
    try simp only [Act.put, List.setIfInBounds_toArray, List.set_cons_zero, List.set_cons_succ]
    refine take_to (i := 6) (oi := _) (v := ?_) (some 15) rfl (by kernel_rfl) (by kernel_rfl) (by kernel_rfl) (by kernel_rfl) (fun _ _ _ h => h) (Or.inl ⟨by kernel_rfl, ?_⟩) (by assumption) ?_
    case refine_2 => (intro w hSw; (try dsimp only at hSw); go_simp; try with_reducible rfl)
    try simp only [Act.put, List.setIfInBounds_toArray, List.set_cons_zero, List.set_cons_succ]
    refine take_to (i := 7) (oi := _) (v := ?_) (some 16) rfl (by kernel_rfl) (by kernel_rfl) (by kernel_rfl) (by kernel_rfl) (fun _ _ _ h => h) (Or.inl ⟨by kernel_rfl, ?_⟩) (by assumption) ?_
    case refine_2 => (intro w hSw; (try dsimp only at hSw); (obtain ⟨q1, q2, q3, q4⟩ := new4 hSw; have c1a := cell_at q1 0 _ rfl; have c1b := cell_at q1 1 _ rfl; have c2a := cell_at q2 0 _ rfl; have c2b := cell_at q2 1 _ rfl; have c3a := cell_at q3 0 _ rfl; have c3b := cell_at q3 1 _ rfl; have c4a := cell_at q4 0 _ rfl; have c4b := cell_at q4 1 _ rfl); go_simp; try with_reducible rfl)
    try simp only [Act.put, List.setIfInBounds_toArray, List.set_cons_zero, List.set_cons_succ]
    refine take_to (i := 8) (oi := _) (v := ?_) (some 17) rfl (by kernel_rfl) (by kernel_rfl) (by kernel_rfl) (by kernel_rfl) (fun _ _ _ h => h) (Or.inl ⟨by kernel_rfl, ?_⟩) (by assumption) ?_
    case refine_2 => (intro w hSw; (try dsimp only at hSw); (obtain ⟨q1, q2, q3, q4⟩ := new4 hSw; have c1a := cell_at q1 0 _ rfl; have c1b := cell_at q1 1 _ rfl; have c2a := cell_at q2 0 _ rfl; have c2b := cell_at q2 1 _ rfl; have c3a := cell_at q3 0 _ rfl; have c3b := cell_at q3 1 _ rfl; have c4a := cell_at q4 0 _ rfl; have c4b := cell_at q4 1 _ rfl); go_simp; try with_reducible rfl)
    try simp only [Act.put, List.setIfInBounds_toArray, List.set_cons_zero, List.set_cons_succ]
    refine take_to (i := 9) (oi := _) (v := ?_) (some 18) rfl (by kernel_rfl) (by kernel_rfl) (by kernel_rfl) (by kernel_rfl) (fun _ _ _ h => h) (Or.inl ⟨by kernel_rfl, ?_⟩) (by assumption) ?_
    case refine_2 => (intro w hSw; (try dsimp only at hSw); (obtain ⟨q1, q2, q3, q4⟩ := new4 hSw; have c1a := cell_at q1 0 _ rfl; have c1b := cell_at q1 1 _ rfl; have c2a := cell_at q2 0 _ rfl; have c2b := cell_at q2 1 _ rfl; have c3a := cell_at q3 0 _ rfl; have c3b := cell_at q3 1 _ rfl; have c4a := cell_at q4 0 _ rfl; have c4b := cell_at q4 1 _ rfl); go_simp; try with_reducible rfl)
    try simp only [Act.put, List.setIfInBounds_toArray, List.set_cons_zero, List.set_cons_succ]
    refine take_to (i := 11) (oi := _) (v := ?_) (some 20) rfl (by kernel_rfl) (by kernel_rfl) (by kernel_rfl) (by kernel_rfl) (fun _ _ _ h => h) (Or.inl ⟨by kernel_rfl, ?_⟩) (by assumption) ?_
    case refine_2 => (intro w hSw; (try dsimp only at hSw); (obtain ⟨q1, q2, q3, q4⟩ := new4 hSw; have c1a := cell_at q1 0 _ rfl; have c1b := cell_at q1 1 _ rfl; have c2a := cell_at q2 0 _ rfl; have c2b := cell_at q2 1 _ rfl; have c3a := cell_at q3 0 _ rfl; have c3b := cell_at q3 1 _ rfl; have c4a := cell_at q4 0 _ rfl; have c4b := cell_at q4 1 _ rfl); go_simp; try with_reducible rfl)
    try simp only [Act.put, List.setIfInBounds_toArray, List.set_cons_zero, List.set_cons_succ]
    refine take_to (i := 12) (oi := _) (v := ?_) (some 21) rfl (by kernel_rfl) (by kernel_rfl) (by kernel_rfl) (by kernel_rfl) (fun _ _ _ h => h) (Or.inl ⟨by kernel_rfl, ?_⟩) (by assumption) ?_
    case refine_2 => (intro w hSw; (try dsimp only at hSw); (obtain ⟨q1, q2, q3, q4⟩ := new4 hSw; have c1a := cell_at q1 0 _ rfl; have c1b := cell_at q1 1 _ rfl; have c2a := cell_at q2 0 _ rfl; have c2b := cell_at q2 1 _ rfl; have c3a := cell_at q3 0 _ rfl; have c3b := cell_at q3 1 _ rfl; have c4a := cell_at q4 0 _ rfl; have c4b := cell_at q4 1 _ rfl); go_simp; try with_reducible rfl)
    try simp only [Act.put, List.setIfInBounds_toArray, List.set_cons_zero, List.set_cons_succ]
    refine take_to (i := 13) (oi := _) (v := ?_) (some 22) rfl (by kernel_rfl) (by kernel_rfl) (by kernel_rfl) (by kernel_rfl) (fun _ _ _ h => h) (Or.inl ⟨by kernel_rfl, ?_⟩) (by assumption) ?_
    case refine_2 => (intro w hSw; (try dsimp only at hSw); (obtain ⟨q1, q2, q3, q4⟩ := new4 hSw; have c1a := cell_at q1 0 _ rfl; have c1b := cell_at q1 1 _ rfl; have c2a := cell_at q2 0 _ rfl; have c2b := cell_at q2 1 _ rfl; have c3a := cell_at q3 0 _ rfl; have c3b := cell_at q3 1 _ rfl; have c4a := cell_at q4 0 _ rfl; have c4b := cell_at q4 1 _ rfl); go_simp; try with_reducible rfl)
    try simp only [Act.put, List.setIfInBounds_toArray, List.set_cons_zero, List.set_cons_succ]
    refine wpAnyH_ready (rs := [10]) (by kernel_rfl) (by simp) ?_
    refine AllReadyH.cons (o := _) rfl (fun K hK => ?_) AllReadyH.nil
    go_simp
    go_at_call 149
    refine (HO1 _).out.mono ?_
    rintro e w2 ⟨rfl, hk2⟩
    try go_wp2_with fail
    refine hK.out _ _ (hHeld.then hk2) (fun hHeld => ?_)
    clear hK K
    try simp only [Act.put, List.setIfInBounds_toArray, List.set_cons_zero, List.set_cons_succ]
    refine wpAnyH_ready (rs := [14]) (by kernel_rfl) (by simp) ?_
    refine AllReadyH.cons (o := _) rfl (fun K hK => ?_) AllReadyH.nil
    go_simp
    go_at_call 149
    refine (HO2 _).out.mono ?_
    rintro e w3 ⟨rfl, hk3⟩
    try go_wp2_with fail
    refine hK.out _ _ (hHeld.then hk3) (fun hHeld => ?_)
    clear hK K
    try simp only [Act.put, List.setIfInBounds_toArray, List.set_cons_zero, List.set_cons_succ]
    refine take_to (i := 15) (oi := _) (v := ?_) (some 24) rfl (by kernel_rfl) (by kernel_rfl) (by kernel_rfl) (by kernel_rfl) (fun _ _ _ h => h) (Or.inl ⟨by kernel_rfl, ?_⟩) (by assumption) ?_
    case refine_2 => (intro w hSw; (try dsimp only at hSw); go_simp; try with_reducible rfl)
    try simp only [Act.put, List.setIfInBounds_toArray, List.set_cons_zero, List.set_cons_succ]
    refine take_to (i := 16) (oi := _) (v := ?_) (some 25) rfl (by kernel_rfl) (by kernel_rfl) (by kernel_rfl) (by kernel_rfl) (fun _ _ _ h => h) (Or.inl ⟨by kernel_rfl, ?_⟩) (by assumption) ?_
    case refine_2 => (intro w hSw; (try dsimp only at hSw); go_simp; try with_reducible rfl)
    try simp only [Act.put, List.setIfInBounds_toArray, List.set_cons_zero, List.set_cons_succ]
    refine take_to (i := 17) (oi := _) (v := ?_) (some 26) rfl (by kernel_rfl) (by kernel_rfl) (by kernel_rfl) (by kernel_rfl) (fun _ _ _ h => h) (Or.inl ⟨by kernel_rfl, ?_⟩) (by assumption) ?_
    case refine_2 => (intro w hSw; (try dsimp only at hSw); go_simp; try with_reducible rfl)
    try simp only [Act.put, List.setIfInBounds_toArray, List.set_cons_zero, List.set_cons_succ]
    refine take_to (i := 18) (oi := _) (v := ?_) (some 27) rfl (by kernel_rfl) (by kernel_rfl) (by kernel_rfl) (by kernel_rfl) (fun _ _ _ h => h) (Or.inl ⟨by kernel_rfl, ?_⟩) (by assumption) ?_
    case refine_2 => (intro w hSw; (try dsimp only at hSw); go_simp; try with_reducible rfl)
    try simp only [Act.put, List.setIfInBounds_toArray, List.set_cons_zero, List.set_cons_succ]
    refine take_to (i := 19) (oi := _) (v := ?_) (some 28) rfl (by kernel_rfl) (by kernel_rfl) (by kernel_rfl) (by kernel_rfl) (fun _ _ _ h => h) (Or.inl ⟨by kernel_rfl, ?_⟩) (by assumption) ?_
    case refine_2 => (intro w hSw; (try dsimp only at hSw); (obtain ⟨q1, q2, q3, q4⟩ := new4 hSw; have c1a := cell_at q1 0 _ rfl; have c1b := cell_at q1 1 _ rfl; have c2a := cell_at q2 0 _ rfl; have c2b := cell_at q2 1 _ rfl; have c3a := cell_at q3 0 _ rfl; have c3b := cell_at q3 1 _ rfl; have c4a := cell_at q4 0 _ rfl; have c4b := cell_at q4 1 _ rfl); go_simp; try with_reducible rfl)
    try simp only [Act.put, List.setIfInBounds_toArray, List.set_cons_zero, List.set_cons_succ]
    refine take_to (i := 20) (oi := _) (v := ?_) (some 29) rfl (by kernel_rfl) (by kernel_rfl) (by kernel_rfl) (by kernel_rfl) (fun _ _ _ h => h) (Or.inl ⟨by kernel_rfl, ?_⟩) (by assumption) ?_
    case refine_2 => (intro w hSw; (try dsimp only at hSw); (obtain ⟨q1, q2, q3, q4⟩ := new4 hSw; have c1a := cell_at q1 0 _ rfl; have c1b := cell_at q1 1 _ rfl; have c2a := cell_at q2 0 _ rfl; have c2b := cell_at q2 1 _ rfl; have c3a := cell_at q3 0 _ rfl; have c3b := cell_at q3 1 _ rfl; have c4a := cell_at q4 0 _ rfl; have c4b := cell_at q4 1 _ rfl); go_simp; try with_reducible rfl)
    try simp only [Act.put, List.setIfInBounds_toArray, List.set_cons_zero, List.set_cons_succ]
    refine take_to (i := 21) (oi := _) (v := ?_) (some 30) rfl (by kernel_rfl) (by kernel_rfl) (by kernel_rfl) (by kernel_rfl) (fun _ _ _ h => h) (Or.inl ⟨by kernel_rfl, ?_⟩) (by assumption) ?_
    case refine_2 => (intro w hSw; (try dsimp only at hSw); (obtain ⟨q1, q2, q3, q4⟩ := new4 hSw; have c1a := cell_at q1 0 _ rfl; have c1b := cell_at q1 1 _ rfl; have c2a := cell_at q2 0 _ rfl; have c2b := cell_at q2 1 _ rfl; have c3a := cell_at q3 0 _ rfl; have c3b := cell_at q3 1 _ rfl; have c4a := cell_at q4 0 _ rfl; have c4b := cell_at q4 1 _ rfl); go_simp; try with_reducible rfl)
    try simp only [Act.put, List.setIfInBounds_toArray, List.set_cons_zero, List.set_cons_succ]
    refine take_to (i := 23) (oi := _) (v := ?_) (some 32) rfl (by kernel_rfl) (by kernel_rfl) (by kernel_rfl) (by kernel_rfl) (fun _ _ _ h => h) (Or.inl ⟨by kernel_rfl, ?_⟩) (by assumption) ?_
    case refine_2 => (intro w hSw; (try dsimp only at hSw); (obtain ⟨q1, q2, q3, q4⟩ := new4 hSw; have c1a := cell_at q1 0 _ rfl; have c1b := cell_at q1 1 _ rfl; have c2a := cell_at q2 0 _ rfl; have c2b := cell_at q2 1 _ rfl; have c3a := cell_at q3 0 _ rfl; have c3b := cell_at q3 1 _ rfl; have c4a := cell_at q4 0 _ rfl; have c4b := cell_at q4 1 _ rfl); go_simp; try with_reducible rfl)
    try simp only [Act.put, List.setIfInBounds_toArray, List.set_cons_zero, List.set_cons_succ]
    refine take_to (i := 24) (oi := _) (v := ?_) (some 33) rfl (by kernel_rfl) (by kernel_rfl) (by kernel_rfl) (by kernel_rfl) (fun _ _ _ h => h) (Or.inl ⟨by kernel_rfl, ?_⟩) (by assumption) ?_
    case refine_2 => (intro w hSw; (try dsimp only at hSw); (obtain ⟨q1, q2, q3, q4⟩ := new4 hSw; have c1a := cell_at q1 0 _ rfl; have c1b := cell_at q1 1 _ rfl; have c2a := cell_at q2 0 _ rfl; have c2b := cell_at q2 1 _ rfl; have c3a := cell_at q3 0 _ rfl; have c3b := cell_at q3 1 _ rfl; have c4a := cell_at q4 0 _ rfl; have c4b := cell_at q4 1 _ rfl); go_simp; try with_reducible rfl)
    try simp only [Act.put, List.setIfInBounds_toArray, List.set_cons_zero, List.set_cons_succ]
    refine take_to (i := 25) (oi := _) (v := ?_) (some 34) rfl (by kernel_rfl) (by kernel_rfl) (by kernel_rfl) (by kernel_rfl) (fun _ _ _ h => h) (Or.inl ⟨by kernel_rfl, ?_⟩) (by assumption) ?_
    case refine_2 => (intro w hSw; (try dsimp only at hSw); (obtain ⟨q1, q2, q3, q4⟩ := new4 hSw; have c1a := cell_at q1 0 _ rfl; have c1b := cell_at q1 1 _ rfl; have c2a := cell_at q2 0 _ rfl; have c2b := cell_at q2 1 _ rfl; have c3a := cell_at q3 0 _ rfl; have c3b := cell_at q3 1 _ rfl; have c4a := cell_at q4 0 _ rfl; have c4b := cell_at q4 1 _ rfl); go_simp; try with_reducible rfl)
    try simp only [Act.put, List.setIfInBounds_toArray, List.set_cons_zero, List.set_cons_succ]
    refine wpAnyH_ready (rs := [22]) (by kernel_rfl) (by simp) ?_
    refine AllReadyH.cons (o := _) rfl (fun K hK => ?_) AllReadyH.nil
    go_simp
    go_at_call 149
    refine (HO3 _).out.mono ?_
    rintro e w4 ⟨rfl, hk4⟩
    try go_wp2_with fail
    refine hK.out _ _ (hHeld.then hk4) (fun hHeld => ?_)
    clear hK K
    try simp only [Act.put, List.setIfInBounds_toArray, List.set_cons_zero, List.set_cons_succ]
    refine wpAnyH_ready (rs := [26]) (by kernel_rfl) (by simp) ?_
    refine AllReadyH.cons (o := _) rfl (fun K hK => ?_) AllReadyH.nil
    go_simp
    go_at_call 149
    refine (HO4 _).out.mono ?_
    rintro e w5 ⟨rfl, hk5⟩
    try go_wp2_with fail
    refine hK.out _ _ (hHeld.then hk5) (fun hHeld => ?_)
    clear hK K
    try simp only [Act.put, List.setIfInBounds_toArray, List.set_cons_zero, List.set_cons_succ]
    refine take_to (i := 27) (oi := _) (v := ?_) (some 36) rfl (by kernel_rfl) (by kernel_rfl) (by kernel_rfl) (by kernel_rfl) (fun _ _ _ h => h) (Or.inl ⟨by kernel_rfl, ?_⟩) (by assumption) ?_
    case refine_2 => (intro w hSw; (try dsimp only at hSw); go_simp; try with_reducible rfl)
    try simp only [Act.put, List.setIfInBounds_toArray, List.set_cons_zero, List.set_cons_succ]
    refine take_to (i := 28) (oi := _) (v := ?_) (some 37) rfl (by kernel_rfl) (by kernel_rfl) (by kernel_rfl) (by kernel_rfl) (fun _ _ _ h => h) (Or.inl ⟨by kernel_rfl, ?_⟩) (by assumption) ?_
    case refine_2 => (intro w hSw; (try dsimp only at hSw); go_simp; try with_reducible rfl)
    try simp only [Act.put, List.setIfInBounds_toArray, List.set_cons_zero, List.set_cons_succ]
    refine take_to (i := 29) (oi := _) (v := ?_) (some 38) rfl (by kernel_rfl) (by kernel_rfl) (by kernel_rfl) (by kernel_rfl) (fun _ _ _ h => h) (Or.inl ⟨by kernel_rfl, ?_⟩) (by assumption) ?_
    case refine_2 => (intro w hSw; (try dsimp only at hSw); go_simp; try with_reducible rfl)
    try simp only [Act.put, List.setIfInBounds_toArray, List.set_cons_zero, List.set_cons_succ]
    refine take_to (i := 30) (oi := _) (v := ?_) (some 8) rfl (by kernel_rfl) (by kernel_rfl) (by kernel_rfl) (by kernel_rfl) (fun _ _ _ h => h) (Or.inl ⟨by kernel_rfl, ?_⟩) (by assumption) ?_
    case refine_2 => (intro w hSw; (try dsimp only at hSw); go_simp; try with_reducible rfl)
    try simp only [Act.put, List.setIfInBounds_toArray, List.set_cons_zero, List.set_cons_succ]
    refine wpAnyH_done (by kernel_rfl) ?_ _
    have HK := Lib.hid (((((Kept.alloc Nob w _).then (Kept.alloc Nob _ _)).then (Kept.alloc Nob _ _)).then (Kept.alloc Nob _ _)).then hHeld)
    go_wp2_with fail
    go_ret
    exact ⟨ret_bool (by rw [← HR.out, hd1]; rfl), HK.out⟩
  · have hd1 : decide (s1 * s2 < 0) = false := decide_eq_false d1
    go_wp2_with fail
    refine wp_region_held_drew (S := (fun w' => Kept Nob ((((w.alloc (.cells #[.int .i64 x1, .int .i64 y1] 42)).alloc (.cells #[.int .i64 x2, .int .i64 y2] 42)).alloc (.cells #[.int .i64 x3, .int .i64 y3] 42)).alloc (.cells #[.int .i64 x4, .int .i64 y4] 42)) w')) (by kernel_rfl) ?_ (fun hHeld => ?_)
    · first | assumption | exact Kept.drew _ _
    refine take_to (i := 0) (oi := _) (v := ?_) (some 9) rfl (by kernel_rfl) (by kernel_rfl) (by kernel_rfl) (by kernel_rfl) (fun _ _ _ h => h) (Or.inl ⟨by kernel_rfl, ?_⟩) (by assumption) ?_
    case refine_2 => (intro w hSw; (try dsimp only at hSw); (obtain ⟨q1, q2, q3, q4⟩ := new4 hSw; have c1a := cell_at q1 0 _ rfl; have c1b := cell_at q1 1 _ rfl; have c2a := cell_at q2 0 _ rfl; have c2b := cell_at q2 1 _ rfl; have c3a := cell_at q3 0 _ rfl; have c3b := cell_at q3 1 _ rfl; have c4a := cell_at q4 0 _ rfl; have c4b := cell_at q4 1 _ rfl); go_simp; try with_reducible rfl)
    try simp only [Act.put, List.setIfInBounds_toArray, List.set_cons_zero, List.set_cons_succ]
    refine take_to (i := 1) (oi := _) (v := ?_) (some 10) rfl (by kernel_rfl) (by kernel_rfl) (by kernel_rfl) (by kernel_rfl) (fun _ _ _ h => h) (Or.inl ⟨by kernel_rfl, ?_⟩) (by assumption) ?_
    case refine_2 => (intro w hSw; (try dsimp only at hSw); (obtain ⟨q1, q2, q3, q4⟩ := new4 hSw; have c1a := cell_at q1 0 _ rfl; have c1b := cell_at q1 1 _ rfl; have c2a := cell_at q2 0 _ rfl; have c2b := cell_at q2 1 _ rfl; have c3a := cell_at q3 0 _ rfl; have c3b := cell_at q3 1 _ rfl; have c4a := cell_at q4 0 _ rfl; have c4b := cell_at q4 1 _ rfl); go_simp; try with_reducible rfl)
    try simp only [Act.put, List.setIfInBounds_toArray, List.set_cons_zero, List.set_cons_succ]
    refine take_to (i := 2) (oi := _) (v := ?_) (some 11) rfl (by kernel_rfl) (by kernel_rfl) (by kernel_rfl) (by kernel_rfl) (fun _ _ _ h => h) (Or.inl ⟨by kernel_rfl, ?_⟩) (by assumption) ?_
    case refine_2 => (intro w hSw; (try dsimp only at hSw); (obtain ⟨q1, q2, q3, q4⟩ := new4 hSw; have c1a := cell_at q1 0 _ rfl; have c1b := cell_at q1 1 _ rfl; have c2a := cell_at q2 0 _ rfl; have c2b := cell_at q2 1 _ rfl; have c3a := cell_at q3 0 _ rfl; have c3b := cell_at q3 1 _ rfl; have c4a := cell_at q4 0 _ rfl; have c4b := cell_at q4 1 _ rfl); go_simp; try with_reducible rfl)
    try simp only [Act.put, List.setIfInBounds_toArray, List.set_cons_zero, List.set_cons_succ]
    refine take_to (i := 3) (oi := _) (v := ?_) (some 12) rfl (by kernel_rfl) (by kernel_rfl) (by kernel_rfl) (by kernel_rfl) (fun _ _ _ h => h) (Or.inl ⟨by kernel_rfl, ?_⟩) (by assumption) ?_
    case refine_2 => (intro w hSw; (try dsimp only at hSw); (obtain ⟨q1, q2, q3, q4⟩ := new4 hSw; have c1a := cell_at q1 0 _ rfl; have c1b := cell_at q1 1 _ rfl; have c2a := cell_at q2 0 _ rfl; have c2b := cell_at q2 1 _ rfl; have c3a := cell_at q3 0 _ rfl; have c3b := cell_at q3 1 _ rfl; have c4a := cell_at q4 0 _ rfl; have c4b := cell_at q4 1 _ rfl); go_simp; try with_reducible rfl)
    try simp only [Act.put, List.setIfInBounds_toArray, List.set_cons_zero, List.set_cons_succ]
    refine wpAnyH_ready (rs := [4]) (by kernel_rfl) (by simp) ?_
    refine AllReadyH.cons (o := _) rfl (fun K hK => ?_) AllReadyH.nil
    go_simp
    refine hK.out _ _ (hHeld.then (Kept.alloc Nob _ _)) (fun hHeld => ?_)
    clear hK K
    try simp only [Act.put, List.setIfInBounds_toArray, List.set_cons_zero, List.set_cons_succ]
    refine wpAnyH_ready (rs := [5]) (by kernel_rfl) (by simp) ?_
    refine AllReadyH.cons (o := _) rfl (fun K hK => ?_) AllReadyH.nil
    go_simp
    go_at_call 148
    refine (HM _ _ (by simp)).out.mono ?_
    rintro e w1 ⟨rfl, hk1⟩
    try go_wp2_with fail
    refine hK.out _ _ (hk1) (fun hHeld => ?_)
    clear hK K
    try simp only [Act.put, List.setIfInBounds_toArray, List.set_cons_zero, List.set_cons_succ]
    refine take_to (i := 6) (oi := _) (v := ?_) (some 15) rfl (by kernel_rfl) (by kernel_rfl) (by kernel_rfl) (by kernel_rfl) (fun _ _ _ h => h) (Or.inl ⟨by kernel_rfl, ?_⟩) (by assumption) ?_
    case refine_2 => (intro w hSw; (try dsimp only at hSw); go_simp; try with_reducible rfl)
    try simp only [Act.put, List.setIfInBounds_toArray, List.set_cons_zero, List.set_cons_succ]
    refine take_to (i := 7) (oi := _) (v := ?_) (some 16) rfl (by kernel_rfl) (by kernel_rfl) (by kernel_rfl) (by kernel_rfl) (fun _ _ _ h => h) (Or.inl ⟨by kernel_rfl, ?_⟩) (by assumption) ?_
    case refine_2 => (intro w hSw; (try dsimp only at hSw); (obtain ⟨q1, q2, q3, q4⟩ := new4 hSw; have c1a := cell_at q1 0 _ rfl; have c1b := cell_at q1 1 _ rfl; have c2a := cell_at q2 0 _ rfl; have c2b := cell_at q2 1 _ rfl; have c3a := cell_at q3 0 _ rfl; have c3b := cell_at q3 1 _ rfl; have c4a := cell_at q4 0 _ rfl; have c4b := cell_at q4 1 _ rfl); go_simp; try with_reducible rfl)
    try simp only [Act.put, List.setIfInBounds_toArray, List.set_cons_zero, List.set_cons_succ]
    refine take_to (i := 8) (oi := _) (v := ?_) (some 17) rfl (by kernel_rfl) (by kernel_rfl) (by kernel_rfl) (by kernel_rfl) (fun _ _ _ h => h) (Or.inl ⟨by kernel_rfl, ?_⟩) (by assumption) ?_
    case refine_2 => (intro w hSw; (try dsimp only at hSw); (obtain ⟨q1, q2, q3, q4⟩ := new4 hSw; have c1a := cell_at q1 0 _ rfl; have c1b := cell_at q1 1 _ rfl; have c2a := cell_at q2 0 _ rfl; have c2b := cell_at q2 1 _ rfl; have c3a := cell_at q3 0 _ rfl; have c3b := cell_at q3 1 _ rfl; have c4a := cell_at q4 0 _ rfl; have c4b := cell_at q4 1 _ rfl); go_simp; try with_reducible rfl)
    try simp only [Act.put, List.setIfInBounds_toArray, List.set_cons_zero, List.set_cons_succ]
    refine take_to (i := 9) (oi := _) (v := ?_) (some 18) rfl (by kernel_rfl) (by kernel_rfl) (by kernel_rfl) (by kernel_rfl) (fun _ _ _ h => h) (Or.inl ⟨by kernel_rfl, ?_⟩) (by assumption) ?_
    case refine_2 => (intro w hSw; (try dsimp only at hSw); (obtain ⟨q1, q2, q3, q4⟩ := new4 hSw; have c1a := cell_at q1 0 _ rfl; have c1b := cell_at q1 1 _ rfl; have c2a := cell_at q2 0 _ rfl; have c2b := cell_at q2 1 _ rfl; have c3a := cell_at q3 0 _ rfl; have c3b := cell_at q3 1 _ rfl; have c4a := cell_at q4 0 _ rfl; have c4b := cell_at q4 1 _ rfl); go_simp; try with_reducible rfl)
    try simp only [Act.put, List.setIfInBounds_toArray, List.set_cons_zero, List.set_cons_succ]
    refine take_to (i := 11) (oi := _) (v := ?_) (some 20) rfl (by kernel_rfl) (by kernel_rfl) (by kernel_rfl) (by kernel_rfl) (fun _ _ _ h => h) (Or.inl ⟨by kernel_rfl, ?_⟩) (by assumption) ?_
    case refine_2 => (intro w hSw; (try dsimp only at hSw); (obtain ⟨q1, q2, q3, q4⟩ := new4 hSw; have c1a := cell_at q1 0 _ rfl; have c1b := cell_at q1 1 _ rfl; have c2a := cell_at q2 0 _ rfl; have c2b := cell_at q2 1 _ rfl; have c3a := cell_at q3 0 _ rfl; have c3b := cell_at q3 1 _ rfl; have c4a := cell_at q4 0 _ rfl; have c4b := cell_at q4 1 _ rfl); go_simp; try with_reducible rfl)
    try simp only [Act.put, List.setIfInBounds_toArray, List.set_cons_zero, List.set_cons_succ]
    refine take_to (i := 12) (oi := _) (v := ?_) (some 21) rfl (by kernel_rfl) (by kernel_rfl) (by kernel_rfl) (by kernel_rfl) (fun _ _ _ h => h) (Or.inl ⟨by kernel_rfl, ?_⟩) (by assumption) ?_
    case refine_2 => (intro w hSw; (try dsimp only at hSw); (obtain ⟨q1, q2, q3, q4⟩ := new4 hSw; have c1a := cell_at q1 0 _ rfl; have c1b := cell_at q1 1 _ rfl; have c2a := cell_at q2 0 _ rfl; have c2b := cell_at q2 1 _ rfl; have c3a := cell_at q3 0 _ rfl; have c3b := cell_at q3 1 _ rfl; have c4a := cell_at q4 0 _ rfl; have c4b := cell_at q4 1 _ rfl); go_simp; try with_reducible rfl)
    try simp only [Act.put, List.setIfInBounds_toArray, List.set_cons_zero, List.set_cons_succ]
    refine take_to (i := 13) (oi := _) (v := ?_) (some 22) rfl (by kernel_rfl) (by kernel_rfl) (by kernel_rfl) (by kernel_rfl) (fun _ _ _ h => h) (Or.inl ⟨by kernel_rfl, ?_⟩) (by assumption) ?_
    case refine_2 => (intro w hSw; (try dsimp only at hSw); (obtain ⟨q1, q2, q3, q4⟩ := new4 hSw; have c1a := cell_at q1 0 _ rfl; have c1b := cell_at q1 1 _ rfl; have c2a := cell_at q2 0 _ rfl; have c2b := cell_at q2 1 _ rfl; have c3a := cell_at q3 0 _ rfl; have c3b := cell_at q3 1 _ rfl; have c4a := cell_at q4 0 _ rfl; have c4b := cell_at q4 1 _ rfl); go_simp; try with_reducible rfl)
    try simp only [Act.put, List.setIfInBounds_toArray, List.set_cons_zero, List.set_cons_succ]
    refine wpAnyH_ready (rs := [10]) (by kernel_rfl) (by simp) ?_
    refine AllReadyH.cons (o := _) rfl (fun K hK => ?_) AllReadyH.nil
    go_simp
    go_at_call 149
    refine (HO1 _).out.mono ?_
    rintro e w2 ⟨rfl, hk2⟩
    try go_wp2_with fail
    refine hK.out _ _ (hHeld.then hk2) (fun hHeld => ?_)
    clear hK K
    try simp only [Act.put, List.setIfInBounds_toArray, List.set_cons_zero, List.set_cons_succ]
    refine wpAnyH_ready (rs := [14]) (by kernel_rfl) (by simp) ?_
    refine AllReadyH.cons (o := _) rfl (fun K hK => ?_) AllReadyH.nil
    go_simp
    go_at_call 149
    refine (HO2 _).out.mono ?_
    rintro e w3 ⟨rfl, hk3⟩
    try go_wp2_with fail
    refine hK.out _ _ (hHeld.then hk3) (fun hHeld => ?_)
    clear hK K
    try simp only [Act.put, List.setIfInBounds_toArray, List.set_cons_zero, List.set_cons_succ]
    refine take_to (i := 15) (oi := _) (v := ?_) (some 24) rfl (by kernel_rfl) (by kernel_rfl) (by kernel_rfl) (by kernel_rfl) (fun _ _ _ h => h) (Or.inl ⟨by kernel_rfl, ?_⟩) (by assumption) ?_
    case refine_2 => (intro w hSw; (try dsimp only at hSw); go_simp; try with_reducible rfl)
    try simp only [Act.put, List.setIfInBounds_toArray, List.set_cons_zero, List.set_cons_succ]
    refine take_to (i := 16) (oi := _) (v := ?_) (some 25) rfl (by kernel_rfl) (by kernel_rfl) (by kernel_rfl) (by kernel_rfl) (fun _ _ _ h => h) (Or.inl ⟨by kernel_rfl, ?_⟩) (by assumption) ?_
    case refine_2 => (intro w hSw; (try dsimp only at hSw); go_simp; try with_reducible rfl)
    try simp only [Act.put, List.setIfInBounds_toArray, List.set_cons_zero, List.set_cons_succ]
    refine take_to (i := 17) (oi := _) (v := ?_) (some 26) rfl (by kernel_rfl) (by kernel_rfl) (by kernel_rfl) (by kernel_rfl) (fun _ _ _ h => h) (Or.inl ⟨by kernel_rfl, ?_⟩) (by assumption) ?_
    case refine_2 => (intro w hSw; (try dsimp only at hSw); go_simp; try with_reducible rfl)
    try simp only [Act.put, List.setIfInBounds_toArray, List.set_cons_zero, List.set_cons_succ]
    refine take_to (i := 18) (oi := _) (v := ?_) (some 27) rfl (by kernel_rfl) (by kernel_rfl) (by kernel_rfl) (by kernel_rfl) (fun _ _ _ h => h) (Or.inl ⟨by kernel_rfl, ?_⟩) (by assumption) ?_
    case refine_2 => (intro w hSw; (try dsimp only at hSw); go_simp; try with_reducible rfl)
    try simp only [Act.put, List.setIfInBounds_toArray, List.set_cons_zero, List.set_cons_succ]
    refine take_to (i := 19) (oi := _) (v := undef) (some 28) rfl (by kernel_rfl) (by kernel_rfl) (by kernel_rfl) (by kernel_rfl) (fun _ _ _ h => h) (Or.inr ⟨by kernel_rfl, rfl⟩) (by assumption) ?_
    try simp only [Act.put, List.setIfInBounds_toArray, List.set_cons_zero, List.set_cons_succ]
    refine take_to (i := 20) (oi := _) (v := undef) (some 29) rfl (by kernel_rfl) (by kernel_rfl) (by kernel_rfl) (by kernel_rfl) (fun _ _ _ h => h) (Or.inr ⟨by kernel_rfl, rfl⟩) (by assumption) ?_
    try simp only [Act.put, List.setIfInBounds_toArray, List.set_cons_zero, List.set_cons_succ]
    refine take_to (i := 21) (oi := _) (v := undef) (some 30) rfl (by kernel_rfl) (by kernel_rfl) (by kernel_rfl) (by kernel_rfl) (fun _ _ _ h => h) (Or.inr ⟨by kernel_rfl, rfl⟩) (by assumption) ?_
    try simp only [Act.put, List.setIfInBounds_toArray, List.set_cons_zero, List.set_cons_succ]
    refine take_to (i := 22) (oi := _) (v := undef) (some 31) rfl (by kernel_rfl) (by kernel_rfl) (by kernel_rfl) (by kernel_rfl) (fun _ _ _ h => h) (Or.inr ⟨by kernel_rfl, rfl⟩) (by assumption) ?_
    try simp only [Act.put, List.setIfInBounds_toArray, List.set_cons_zero, List.set_cons_succ]
    refine take_to (i := 23) (oi := _) (v := undef) (some 32) rfl (by kernel_rfl) (by kernel_rfl) (by kernel_rfl) (by kernel_rfl) (fun _ _ _ h => h) (Or.inr ⟨by kernel_rfl, rfl⟩) (by assumption) ?_
    try simp only [Act.put, List.setIfInBounds_toArray, List.set_cons_zero, List.set_cons_succ]
    refine take_to (i := 24) (oi := _) (v := undef) (some 33) rfl (by kernel_rfl) (by kernel_rfl) (by kernel_rfl) (by kernel_rfl) (fun _ _ _ h => h) (Or.inr ⟨by kernel_rfl, rfl⟩) (by assumption) ?_
    try simp only [Act.put, List.setIfInBounds_toArray, List.set_cons_zero, List.set_cons_succ]
    refine take_to (i := 25) (oi := _) (v := undef) (some 34) rfl (by kernel_rfl) (by kernel_rfl) (by kernel_rfl) (by kernel_rfl) (fun _ _ _ h => h) (Or.inr ⟨by kernel_rfl, rfl⟩) (by assumption) ?_
    try simp only [Act.put, List.setIfInBounds_toArray, List.set_cons_zero, List.set_cons_succ]
    refine take_to (i := 26) (oi := _) (v := undef) (some 35) rfl (by kernel_rfl) (by kernel_rfl) (by kernel_rfl) (by kernel_rfl) (fun _ _ _ h => h) (Or.inr ⟨by kernel_rfl, rfl⟩) (by assumption) ?_
    try simp only [Act.put, List.setIfInBounds_toArray, List.set_cons_zero, List.set_cons_succ]
    refine take_to (i := 27) (oi := _) (v := undef) (some 36) rfl (by kernel_rfl) (by kernel_rfl) (by kernel_rfl) (by kernel_rfl) (fun _ _ _ h => h) (Or.inr ⟨by kernel_rfl, rfl⟩) (by assumption) ?_
    try simp only [Act.put, List.setIfInBounds_toArray, List.set_cons_zero, List.set_cons_succ]
    refine take_to (i := 28) (oi := _) (v := undef) (some 37) rfl (by kernel_rfl) (by kernel_rfl) (by kernel_rfl) (by kernel_rfl) (fun _ _ _ h => h) (Or.inr ⟨by kernel_rfl, rfl⟩) (by assumption) ?_
    try simp only [Act.put, List.setIfInBounds_toArray, List.set_cons_zero, List.set_cons_succ]
    refine take_to (i := 29) (oi := _) (v := ?_) (some 38) rfl (by kernel_rfl) (by kernel_rfl) (by kernel_rfl) (by kernel_rfl) (fun _ _ _ h => h) (Or.inl ⟨by kernel_rfl, ?_⟩) (by assumption) ?_
    case refine_2 => (intro w hSw; (try dsimp only at hSw); go_simp; try with_reducible rfl)
    try simp only [Act.put, List.setIfInBounds_toArray, List.set_cons_zero, List.set_cons_succ]
    refine take_to (i := 30) (oi := _) (v := ?_) (some 8) rfl (by kernel_rfl) (by kernel_rfl) (by kernel_rfl) (by kernel_rfl) (fun _ _ _ h => h) (Or.inl ⟨by kernel_rfl, ?_⟩) (by assumption) ?_
    case refine_2 => (intro w hSw; (try dsimp only at hSw); go_simp; try with_reducible rfl)
    try simp only [Act.put, List.setIfInBounds_toArray, List.set_cons_zero, List.set_cons_succ]
    refine wpAnyH_done (by kernel_rfl) ?_ _
    have HK := Lib.hid (((((Kept.alloc Nob w _).then (Kept.alloc Nob _ _)).then (Kept.alloc Nob _ _)).then (Kept.alloc Nob _ _)).then hHeld)
    go_wp2_with fail
    go_ret
    exact ⟨ret_bool (by rw [← HR.out, hd1]; rfl), HK.out⟩

set_option maxRecDepth 100000 in
set_option maxHeartbeats 8000000 in
theorem segm_meet (w : World) (x1 y1 x2 y2 x3 y3 x4 y4 : Int) (h1 : ok (x1, y1) = true) (h2 : ok (x2, y2) = true) (h3 : ok (x3, y3) = true) (h4 : ok (x4, y4) = true) :
    Calls Tryz.prog 137 #[.agg #[.int .i64 x1, .int .i64 y1], .agg #[.int .i64 x2, .int .i64 y2], .agg #[.int .i64 x3, .int .i64 y3], .agg #[.int .i64 x4, .int .i64 y4]] w fun e w' => e = .returned (.bool (meet (x1, y1) (x2, y2) (x3, y3) (x4, y4))) ∧ Kept Nob w w' := by
  have HM := fun (wx : World) g hg => Lib.hid (smay_new [(x1, y1), (x2, y2), (x3, y3), (x4, y4)] 4 #[.int .i64 x1, .int .i64 y1, .int .i64 x2, .int .i64 y2, .int .i64 x3, .int .i64 y3, .int .i64 x4, .int .i64 y4] (by simp [h1, h2, h3, h4]) rfl (by omega) rfl wx g hg)
  have HP := fun (wx : World) => Lib.hid (segm_proper wx x1 y1 x2 y2 x3 y3 x4 y4 h1 h2 h3 h4)
  have HO1 := fun (wx : World) => Lib.hid (segm_on wx x1 y1 x2 y2 x3 y3 h1 h2 h3)
  have HO2 := fun (wx : World) => Lib.hid (segm_on wx x1 y1 x2 y2 x4 y4 h1 h2 h4)
  have HO3 := fun (wx : World) => Lib.hid (segm_on wx x3 y3 x4 y4 x1 y1 h3 h4 h1)
  have HO4 := fun (wx : World) => Lib.hid (segm_on wx x3 y3 x4 y4 x2 y2 h3 h4 h2)
  obtain ⟨r, hr⟩ : ∃ r, meet (x1, y1) (x2, y2) (x3, y3) (x4, y4) = r := ⟨_, rfl⟩
  rw [hr]
  unfold meet at hr
  generalize proper (x1, y1) (x2, y2) (x3, y3) (x4, y4) = p at *
  generalize on (x1, y1) (x2, y2) (x3, y3) = o1 at *
  generalize on (x1, y1) (x2, y2) (x4, y4) = o2 at *
  generalize on (x3, y3) (x4, y4) (x1, y1) = o3 at *
  generalize on (x3, y3) (x4, y4) (x2, y2) = o4 at *
  have HR := Lib.hid hr
  clear h1 h2 h3 h4 hr
  go_enter Tryz.func137, Tryz.ntmps137
  go_wp2_with fail
  refine (HM _ _ (by simp)).out.mono ?_
  rintro e w1 ⟨rfl, hk1⟩
  have HB1 := Lib.hid hk1
  obtain ⟨q1, q2, q3, q4⟩ := new4 HB1.out
  have c1a := cell_at q1 0 _ rfl
  have c1b := cell_at q1 1 _ rfl
  have c2a := cell_at q2 0 _ rfl
  have c2b := cell_at q2 1 _ rfl
  have c3a := cell_at q3 0 _ rfl
  have c3b := cell_at q3 1 _ rfl
  have c4a := cell_at q4 0 _ rfl
  have c4b := cell_at q4 1 _ rfl
  clear q1 q2 q3 q4
  clear hk1
  go_wp2_with fail
  refine (HP _).out.mono ?_
  rintro e w2 ⟨rfl, hk2⟩
  clear c1a c1b c2a c2b c3a c3b c4a c4b
  have HB2 := Lib.hid (HB1.out.then hk2)
  obtain ⟨q1, q2, q3, q4⟩ := new4 HB2.out
  have c1a := cell_at q1 0 _ rfl
  have c1b := cell_at q1 1 _ rfl
  have c2a := cell_at q2 0 _ rfl
  have c2b := cell_at q2 1 _ rfl
  have c3a := cell_at q3 0 _ rfl
  have c3b := cell_at q3 1 _ rfl
  have c4a := cell_at q4 0 _ rfl
  have c4b := cell_at q4 1 _ rfl
  clear q1 q2 q3 q4
  clear hk2
  cases p with
  | true =>
    have HK := Lib.hid (((((Kept.alloc Nob w _).then (Kept.alloc Nob _ _)).then (Kept.alloc Nob _ _)).then (Kept.alloc Nob _ _)).then HB2.out)
    go_wp2_with fail
    go_ret
    exact ⟨ret_bool (by rw [← HR.out]; simp), HK.out⟩
  | false =>
    go_wp2_with fail
    refine (HO1 _).out.mono ?_
    rintro e w3 ⟨rfl, hk3⟩
    clear c1a c1b c2a c2b c3a c3b c4a c4b
    have HB3 := Lib.hid (HB2.out.then hk3)
    obtain ⟨q1, q2, q3, q4⟩ := new4 HB3.out
    have c1a := cell_at q1 0 _ rfl
    have c1b := cell_at q1 1 _ rfl
    have c2a := cell_at q2 0 _ rfl
    have c2b := cell_at q2 1 _ rfl
    have c3a := cell_at q3 0 _ rfl
    have c3b := cell_at q3 1 _ rfl
    have c4a := cell_at q4 0 _ rfl
    have c4b := cell_at q4 1 _ rfl
    clear q1 q2 q3 q4
    clear hk3
    cases o1 with
    | true =>
      have HK := Lib.hid (((((Kept.alloc Nob w _).then (Kept.alloc Nob _ _)).then (Kept.alloc Nob _ _)).then (Kept.alloc Nob _ _)).then HB3.out)
      go_wp2_with fail
      go_ret
      exact ⟨ret_bool (by rw [← HR.out]; simp), HK.out⟩
    | false =>
      go_wp2_with fail
      refine (HO2 _).out.mono ?_
      rintro e w4 ⟨rfl, hk4⟩
      clear c1a c1b c2a c2b c3a c3b c4a c4b
      have HB4 := Lib.hid (HB3.out.then hk4)
      obtain ⟨q1, q2, q3, q4⟩ := new4 HB4.out
      have c1a := cell_at q1 0 _ rfl
      have c1b := cell_at q1 1 _ rfl
      have c2a := cell_at q2 0 _ rfl
      have c2b := cell_at q2 1 _ rfl
      have c3a := cell_at q3 0 _ rfl
      have c3b := cell_at q3 1 _ rfl
      have c4a := cell_at q4 0 _ rfl
      have c4b := cell_at q4 1 _ rfl
      clear q1 q2 q3 q4
      clear hk4
      cases o2 with
      | true =>
        have HK := Lib.hid (((((Kept.alloc Nob w _).then (Kept.alloc Nob _ _)).then (Kept.alloc Nob _ _)).then (Kept.alloc Nob _ _)).then HB4.out)
        go_wp2_with fail
        go_ret
        exact ⟨ret_bool (by rw [← HR.out]; simp), HK.out⟩
      | false =>
        go_wp2_with fail
        refine (HO3 _).out.mono ?_
        rintro e w5 ⟨rfl, hk5⟩
        clear c1a c1b c2a c2b c3a c3b c4a c4b
        have HB5 := Lib.hid (HB4.out.then hk5)
        obtain ⟨q1, q2, q3, q4⟩ := new4 HB5.out
        have c1a := cell_at q1 0 _ rfl
        have c1b := cell_at q1 1 _ rfl
        have c2a := cell_at q2 0 _ rfl
        have c2b := cell_at q2 1 _ rfl
        have c3a := cell_at q3 0 _ rfl
        have c3b := cell_at q3 1 _ rfl
        have c4a := cell_at q4 0 _ rfl
        have c4b := cell_at q4 1 _ rfl
        clear q1 q2 q3 q4
        clear hk5
        cases o3 with
        | true =>
          have HK := Lib.hid (((((Kept.alloc Nob w _).then (Kept.alloc Nob _ _)).then (Kept.alloc Nob _ _)).then (Kept.alloc Nob _ _)).then HB5.out)
          go_wp2_with fail
          go_ret
          exact ⟨ret_bool (by rw [← HR.out]; simp), HK.out⟩
        | false =>
          go_wp2_with fail
          refine (HO4 _).out.mono ?_
          rintro e w6 ⟨rfl, hk6⟩
          clear c1a c1b c2a c2b c3a c3b c4a c4b
          have HB6 := Lib.hid (HB5.out.then hk6)
          obtain ⟨q1, q2, q3, q4⟩ := new4 HB6.out
          have c1a := cell_at q1 0 _ rfl
          have c1b := cell_at q1 1 _ rfl
          have c2a := cell_at q2 0 _ rfl
          have c2b := cell_at q2 1 _ rfl
          have c3a := cell_at q3 0 _ rfl
          have c3b := cell_at q3 1 _ rfl
          have c4a := cell_at q4 0 _ rfl
          have c4b := cell_at q4 1 _ rfl
          clear q1 q2 q3 q4
          clear hk6
          have HK := Lib.hid (((((Kept.alloc Nob w _).then (Kept.alloc Nob _ _)).then (Kept.alloc Nob _ _)).then (Kept.alloc Nob _ _)).then HB6.out)
          go_wp2_with fail
          go_ret
          exact ⟨ret_bool (by rw [← HR.out]; simp), HK.out⟩
end Go.Proofs.YthjiobmglebmdaaGreatDoor
