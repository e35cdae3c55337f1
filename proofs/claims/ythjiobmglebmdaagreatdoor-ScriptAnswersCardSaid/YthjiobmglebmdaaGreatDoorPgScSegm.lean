/- segm: may a point be, is a point on a segment, do two segments cross, do they meet. -/
import Derived.Test.YthjiobmglebmdaaGreatDoorPgScPlane
namespace Go.Proofs.YthjiobmglebmdaaGreatDoor
open Go.RowKit
open Go.Proofs.YthjiobmglebmdaaGreatDoor.Geo

/-- a region's operation taken first, its slot written out -/
theorem take_to {P : Program} {ops : Array Oper} {Q : Exit → Act → World → Prop} {S : World → Prop} {md : Region.Mode} {i : Nat} {oi : Oper} {v : Value} {fuel : Nat} {listed : Array Bool} {a : Act} {w : World} (d : Option Tmp) (hi : ops[i]? = some oi) (hd : oi.dst = d)
    (hs : Region.noSelect ops = true) (hf : Region.free md ops listed i = true) (hr : (Region.ready md ops listed).contains i = true)
    (hQ : ∀ c a w, Q (.panic c) (a.put d v) w → Q (.panic c) a w) (hy : YieldsIf P ops S oi v a) (hS : S w)
    (h : wpAnyH P md ops Q S fuel (listed.setIfInBounds i true) (a.put d v) w) : wpAnyH P md ops Q S (fuel + 1) listed a w := by
  subst hd
  exact wpAnyH_take hi hs hf hr hQ hy hS h
/-- is a point in a box -/
def hasB (x1 y1 x2 y2 x y : Int) : Bool := decide (x1 ≤ x) && decide (x ≤ x2) && decide (y1 ≤ y) && decide (y ≤ y2)
set_option maxHeartbeats 1000000 in
theorem plane_has (w : World) (x1 y1 x2 y2 x y : Int) (hb : bxOk x1 y1 x2 y2 = true) (hp : ok (x, y) = true) :
    Calls Tryz.prog 150 #[.agg #[.int .i64 x1, .int .i64 y1, .int .i64 x2, .int .i64 y2], .agg #[.int .i64 x, .int .i64 y]] w fun e w' => e = .returned (.bool (hasB x1 y1 x2 y2 x y)) ∧ Kept Nob w w' := by
  have HX := fun (wx : World) g hg => Lib.hid (boxes_one x1 y1 x2 y2 hb wx g hg)
  have HM := fun (wx : World) g hg => Lib.hid (may_new [(x, y)] 1 #[.int .i64 x, .int .i64 y] true (by simp [hp]) rfl (by omega) rfl wx g hg)
  clear hb hp
  obtain ⟨r, hr⟩ : ∃ r, hasB x1 y1 x2 y2 x y = r := ⟨_, rfl⟩
  rw [hr]
  have HR := Lib.hid hr
  clear hr
  unfold hasB at HR
  go_enter Tryz.func150, Tryz.ntmps150
  go_wp2_with fail
  refine (HX _ _ (by simp)).out.mono ?_
  rintro e w1 ⟨rfl, hk1⟩
  have HB := Lib.hid hk1
  obtain ⟨q1, q2⟩ := new2 hk1
  have c2a := cell_at q2 0 _ rfl
  have c2b := cell_at q2 1 _ rfl
  clear q1 q2 hk1
  go_wp2_with fail
  refine (HM _ _ rfl).out.mono ?_
  rintro e w2 ⟨rfl, hk2⟩
  clear c2a c2b
  obtain ⟨q1, q2⟩ := new2 (HB.out.then hk2)
  have HK := Lib.hid ((Kept.alloc Nob w _).then ((Kept.alloc Nob _ _).then (HB.out.then hk2)))
  have c1a := cell_at q1 0 _ rfl
  have c1b := cell_at q1 1 _ rfl
  have c1c := cell_at q1 2 _ rfl
  have c1d := cell_at q1 3 _ rfl
  have c2a := cell_at q2 0 _ rfl
  have c2b := cell_at q2 1 _ rfl
  clear q1 q2 hk2 HB HX HM
  by_cases d1 : x1 ≤ x
  · by_cases d2 : x ≤ x2
    · by_cases d3 : y1 ≤ y
      · by_cases d4 : y ≤ y2
        · obtain rfl : r = true := by rw [← HR.out]; simp only [Bool.and_eq_true, decide_eq_true_eq]; omega
          clear HR
          go_wp2_with fail
          go_ret
          first | exact ⟨rfl, HK.out⟩ | exact ⟨ret_bool (decide_eq_true (by omega)), HK.out⟩
        · obtain rfl : r = false := by rw [← HR.out]; simp only [Bool.and_eq_false_iff, decide_eq_false_iff_not]; omega
          clear HR
          go_wp2_with fail
          go_ret
          exact ⟨ret_bool (decide_eq_false (by omega)), HK.out⟩
      · obtain rfl : r = false := by rw [← HR.out]; simp only [Bool.and_eq_false_iff, decide_eq_false_iff_not]; omega
        clear HR
        go_wp2_with fail
        go_ret
        exact ⟨rfl, HK.out⟩
    · obtain rfl : r = false := by rw [← HR.out]; simp only [Bool.and_eq_false_iff, decide_eq_false_iff_not]; omega
      clear HR
      go_wp2_with fail
      go_ret
      exact ⟨rfl, HK.out⟩
  · obtain rfl : r = false := by rw [← HR.out]; simp only [Bool.and_eq_false_iff, decide_eq_false_iff_not]; omega
    clear HR
    go_wp2_with fail
    go_ret
    exact ⟨rfl, HK.out⟩

set_option maxHeartbeats 400000 in
theorem segm_may (w : World) (v : Value) (l : List Pt) (F : Nat → Prop) (h : PtsAt w v l F) (hl : l.length < 1000000000) (ho : l.all ok = true) :
    Calls Tryz.prog 148 #[v] w fun e w' => e = .returned (.bool true) ∧ Kept Nob w w' := by
  obtain ⟨a, cap, rfl⟩ := h.shape
  have H := Lib.hid h
  have HO := Lib.hid ho
  clear h ho
  go_enter Tryz.func148, Tryz.ntmps148
  go_wp2
  go_loopw [7] (fun i wr => ∃ k : Nat, k ≤ l.length ∧ i = .int .i64 k ∧ Kept Nob w wr) (fun i _ => l.length - (intOf i).toNat)
  case atStart => exact ⟨0, Nat.zero_le _, rfl, Kept.refl _ _⟩
  case round =>
    obtain ⟨k, hk, rfl, hw⟩ := hrel
    have HW := Lib.hid hw
    clear hw
    by_cases hlt : k < l.length
    · obtain ⟨b, o, rfl, -, hb, -, c0, c1⟩ := (H.out.nob HW.out).at (List.getElem?_eq_getElem hlt)
      have HC := fun wx : World => Lib.hid (checkPoint_any wx l[k].1 l[k].2 true (List.all_eq_true.1 HO.out _ (List.getElem_mem hlt)))
      simp only [if_true] at HC
      generalize l[k].1 = x at c0 HC
      generalize l[k].2 = y at c1 HC
      go_wp2_with fail
      refine (HC _).out.mono ?_
      rintro e w' ⟨rfl, hk⟩
      have HW2 := Lib.hid ((HW.out.then (Kept.alloc Nob _ _)).then hk)
      clear hk
      go_wp2_with fail
      go_roundw
      case rel => exact ⟨k + 1, by omega, by go_num, HW2.out⟩
      case measure => simp [intOf]; omega
    · obtain rfl : k = l.length := by omega
      go_wp2
      go_ret
      exact ⟨rfl, HW.out⟩
/-- may, of points that are laid in a new block -/
theorem smay_new (l : List Pt) (n : Nat) (cs : Array Value) (hr : l.all ok = true) (hl : l.length = n) (hn : n < 1000000000) (hcs : cs = (ptCells l).toArray) (w : World) (g : Nat) (hg : w.heap.size = g) :
    Calls Tryz.prog 148 #[.slice (some ⟨g, 0, none⟩) n n] (w.alloc (.cells cs 42)) fun e w' => e = .returned (.bool true) ∧ Kept Nob w w' := by
  subst hg hl hcs
  refine (segm_may _ _ l _ (PtsAt.new w l _) hn hr).mono ?_
  rintro e w' ⟨rfl, hk⟩
  exact ⟨rfl, (Kept.alloc Nob _ _).then hk⟩
theorem smay_drew (l : List Pt) (n : Nat) (cs : Array Value) (hr : l.all ok = true) (hl : l.length = n) (hn : n < 1000000000) (hcs : cs = (ptCells l).toArray) (w : World) (g : Nat) (hg : w.heap.size = g) :
    Calls Tryz.prog 148 #[.slice (some ⟨g, 0, none⟩) n n] (w.alloc (.cells cs 42)).drew fun e w' => e = .returned (.bool true) ∧ Kept Nob w w' := by
  subst hg hl hcs
  refine (segm_may _ _ l _ ((PtsAt.new w l _).nob (Kept.drew Nob _)) hn hr).mono ?_
  rintro e w' ⟨rfl, hk⟩
  exact ⟨rfl, ((Kept.alloc Nob _ _).then (Kept.drew Nob _)).then hk⟩
theorem segm_span (w : World) (x1 y1 x2 y2 : Int) :
    Calls Tryz.prog 151 #[.agg #[.int .i64 x1, .int .i64 y1], .agg #[.int .i64 x2, .int .i64 y2]] w fun e w' => e = .returned (.agg #[.int .i64 (min x1 x2), .int .i64 (min y1 y2), .int .i64 (max x1 x2), .int .i64 (max y1 y2)]) ∧ Kept Nob w w' := by
  obtain ⟨a, ha⟩ : ∃ a, min x1 x2 = a := ⟨_, rfl⟩
  obtain ⟨b, hb⟩ : ∃ a, min y1 y2 = a := ⟨_, rfl⟩
  obtain ⟨c, hc⟩ : ∃ a, max x1 x2 = a := ⟨_, rfl⟩
  obtain ⟨d, hd⟩ : ∃ a, max y1 y2 = a := ⟨_, rfl⟩
  rw [ha, hb, hc, hd]
  have HA := Lib.hid ha
  have HB := Lib.hid hb
  have HC := Lib.hid hc
  have HD := Lib.hid hd
  clear ha hb hc hd
  go_enter Tryz.func151, Tryz.ntmps151
  go_wp2_with fail
  all_goals refine bodyPost_ret (v := .agg #[.int .i64 a, .int .i64 b, .int .i64 c, .int .i64 d]) ?_ rfl ⟨rfl, ((Kept.alloc Nob _ _).then (Kept.alloc Nob _ _)).then (Kept.alloc Nob _ _)⟩
  all_goals have ha := HA.out
  all_goals have hb := HB.out
  all_goals have hc := HC.out
  all_goals have hd := HD.out
  all_goals refine (results_cell_row (P := Tryz.prog) (p := 4) (ty := 44) (by kernel_rfl) _ _ (w.heap.size + 1 + 1) _ _ (0, 0) _ rfl (new3 (Kept.refl Nob _)).2.2 Tryz.underlying44 rfl (by kernel_rfl)).trans ?_
  all_goals simp
  all_goals omega
theorem boxB_span {a b : Pt} (ha : ok a = true) (hb : ok b = true) : bxOk (min a.1 b.1) (min a.2 b.2) (max a.1 b.1) (max a.2 b.2) = true := by
  rw [ok_iff] at ha hb
  unfold bxOk
  simp only [Bool.and_eq_true, ok_iff, decide_eq_true_eq]
  omega

set_option maxHeartbeats 1000000 in
theorem segm_on (w : World) (x1 y1 x2 y2 x3 y3 : Int) (h1 : ok (x1, y1) = true) (h2 : ok (x2, y2) = true) (h3 : ok (x3, y3) = true) :
    Calls Tryz.prog 136 #[.agg #[.int .i64 x1, .int .i64 y1], .agg #[.int .i64 x2, .int .i64 y2], .agg #[.int .i64 x3, .int .i64 y3]] w fun e w' => e = .returned (.bool (on (x1, y1) (x2, y2) (x3, y3))) ∧ Kept Nob w w' := by
  have HM := fun (wx : World) g hg => Lib.hid (smay_drew [(x1, y1), (x2, y2), (x3, y3)] 3 #[.int .i64 x1, .int .i64 y1, .int .i64 x2, .int .i64 y2, .int .i64 x3, .int .i64 y3] (by simp [h1, h2, h3]) rfl (by omega) rfl wx g hg)
  have HO := fun (wx : World) => Lib.hid (plane_orient wx x1 y1 x2 y2 x3 y3 h1 h2 h3)
  have HS := fun (wx : World) => Lib.hid (segm_span wx x1 y1 x2 y2)
  have HH := fun (wx : World) => Lib.hid (plane_has wx (min x1 x2) (min y1 y2) (max x1 x2) (max y1 y2) x3 y3 (boxB_span h1 h2) h3)
  obtain ⟨r, hr⟩ : ∃ r, on (x1, y1) (x2, y2) (x3, y3) = r := ⟨_, rfl⟩
  rw [hr]
  unfold on inBox at hr
  simp only at hr
  unfold hasB at HH
  generalize (decide (min x1 x2 ≤ x3) && decide (x3 ≤ max x1 x2) && decide (min y1 y2 ≤ y3) && decide (y3 ≤ max y1 y2)) = h at HH hr
  generalize min x1 x2 = m1 at HS HH
  generalize min y1 y2 = m2 at HS HH
  generalize max x1 x2 = m3 at HS HH
  generalize max y1 y2 = m4 at HS HH
  generalize cr (x1, y1) (x2, y2) (x3, y3) = n at HO hr
  have hs : sg n = 0 ↔ n = 0 := by
    unfold sg
    by_cases a : n < 0
    · rw [if_pos a]; omega
    · rw [if_neg a]
      by_cases b : 0 < n
      · rw [if_pos b]; omega
      · rw [if_neg b]; omega
  generalize sg n = s at HO hs
  have HR : Hid (r = (decide (s = 0) && h)) := Lib.hid (by rw [← hr]; congr 1; exact decide_eq_decide.2 hs.symm)
  clear h1 h2 h3 hr hs
  go_enter Tryz.func136, Tryz.ntmps136
  by_cases h0 : s = 0
  · subst h0
    go_wp2_with fail
    refine wp_region_held_drew (S := (fun w' => Kept Nob (((w.alloc (.cells #[.int .i64 x1, .int .i64 y1] 42)).alloc (.cells #[.int .i64 x2, .int .i64 y2] 42)).alloc (.cells #[.int .i64 x3, .int .i64 y3] 42)) w')) (by kernel_rfl) ?_ (fun hHeld => ?_)
    · first | assumption | exact Kept.drew _ _
    refine take_to (i := 0) (oi := _) (v := ?_) (some 7) rfl (by kernel_rfl) (by kernel_rfl) (by kernel_rfl) (by kernel_rfl) (fun _ _ _ h => h) (Or.inl ⟨by kernel_rfl, ?_⟩) (by assumption) ?_
    case refine_2 => (intro w hSw; (try dsimp only at hSw); (obtain ⟨q1, q2, q3⟩ := new3 hSw; have c1a := cell_at q1 0 _ rfl; have c1b := cell_at q1 1 _ rfl; have c2a := cell_at q2 0 _ rfl; have c2b := cell_at q2 1 _ rfl; have c3a := cell_at q3 0 _ rfl; have c3b := cell_at q3 1 _ rfl); go_simp; try with_reducible rfl)
    try simp only [Act.put, List.setIfInBounds_toArray, List.set_cons_zero, List.set_cons_succ]
    refine take_to (i := 1) (oi := _) (v := ?_) (some 8) rfl (by kernel_rfl) (by kernel_rfl) (by kernel_rfl) (by kernel_rfl) (fun _ _ _ h => h) (Or.inl ⟨by kernel_rfl, ?_⟩) (by assumption) ?_
    case refine_2 => (intro w hSw; (try dsimp only at hSw); (obtain ⟨q1, q2, q3⟩ := new3 hSw; have c1a := cell_at q1 0 _ rfl; have c1b := cell_at q1 1 _ rfl; have c2a := cell_at q2 0 _ rfl; have c2b := cell_at q2 1 _ rfl; have c3a := cell_at q3 0 _ rfl; have c3b := cell_at q3 1 _ rfl); go_simp; try with_reducible rfl)
    try simp only [Act.put, List.setIfInBounds_toArray, List.set_cons_zero, List.set_cons_succ]
    refine take_to (i := 2) (oi := _) (v := ?_) (some 9) rfl (by kernel_rfl) (by kernel_rfl) (by kernel_rfl) (by kernel_rfl) (fun _ _ _ h => h) (Or.inl ⟨by kernel_rfl, ?_⟩) (by assumption) ?_
    case refine_2 => (intro w hSw; (try dsimp only at hSw); (obtain ⟨q1, q2, q3⟩ := new3 hSw; have c1a := cell_at q1 0 _ rfl; have c1b := cell_at q1 1 _ rfl; have c2a := cell_at q2 0 _ rfl; have c2b := cell_at q2 1 _ rfl; have c3a := cell_at q3 0 _ rfl; have c3b := cell_at q3 1 _ rfl); go_simp; try with_reducible rfl)
    try simp only [Act.put, List.setIfInBounds_toArray, List.set_cons_zero, List.set_cons_succ]
    refine wpAnyH_ready (rs := [3]) (by kernel_rfl) (by simp) ?_
    refine AllReadyH.cons (o := _) rfl (fun K hK => ?_) AllReadyH.nil
    go_simp
    refine hK.out _ _ (hHeld.then (Kept.alloc Nob _ _)) (fun hHeld => ?_)
    clear hK K
    try simp only [Act.put, List.setIfInBounds_toArray, List.set_cons_zero, List.set_cons_succ]
    refine wpAnyH_ready (rs := [4]) (by kernel_rfl) (by simp) ?_
    refine AllReadyH.cons (o := _) rfl (fun K hK => ?_) AllReadyH.nil
    go_simp
    go_at_call 148
    refine (HM _ _ (by simp)).out.mono ?_
    rintro e w1 ⟨rfl, hk1⟩
    try go_wp2_with fail
    refine hK.out _ _ (hk1) (fun hHeld => ?_)
    clear hK K
    try simp only [Act.put, List.setIfInBounds_toArray, List.set_cons_zero, List.set_cons_succ]
    refine take_to (i := 5) (oi := _) (v := ?_) (some 12) rfl (by kernel_rfl) (by kernel_rfl) (by kernel_rfl) (by kernel_rfl) (fun _ _ _ h => h) (Or.inl ⟨by kernel_rfl, ?_⟩) (by assumption) ?_
    case refine_2 => (intro w hSw; (try dsimp only at hSw); go_simp; try with_reducible rfl)
    try simp only [Act.put, List.setIfInBounds_toArray, List.set_cons_zero, List.set_cons_succ]
    refine take_to (i := 6) (oi := _) (v := ?_) (some 13) rfl (by kernel_rfl) (by kernel_rfl) (by kernel_rfl) (by kernel_rfl) (fun _ _ _ h => h) (Or.inl ⟨by kernel_rfl, ?_⟩) (by assumption) ?_
    case refine_2 => (intro w hSw; (try dsimp only at hSw); (obtain ⟨q1, q2, q3⟩ := new3 hSw; have c1a := cell_at q1 0 _ rfl; have c1b := cell_at q1 1 _ rfl; have c2a := cell_at q2 0 _ rfl; have c2b := cell_at q2 1 _ rfl; have c3a := cell_at q3 0 _ rfl; have c3b := cell_at q3 1 _ rfl); go_simp; try with_reducible rfl)
    try simp only [Act.put, List.setIfInBounds_toArray, List.set_cons_zero, List.set_cons_succ]
    refine take_to (i := 7) (oi := _) (v := ?_) (some 14) rfl (by kernel_rfl) (by kernel_rfl) (by kernel_rfl) (by kernel_rfl) (fun _ _ _ h => h) (Or.inl ⟨by kernel_rfl, ?_⟩) (by assumption) ?_
    case refine_2 => (intro w hSw; (try dsimp only at hSw); (obtain ⟨q1, q2, q3⟩ := new3 hSw; have c1a := cell_at q1 0 _ rfl; have c1b := cell_at q1 1 _ rfl; have c2a := cell_at q2 0 _ rfl; have c2b := cell_at q2 1 _ rfl; have c3a := cell_at q3 0 _ rfl; have c3b := cell_at q3 1 _ rfl); go_simp; try with_reducible rfl)
    try simp only [Act.put, List.setIfInBounds_toArray, List.set_cons_zero, List.set_cons_succ]
    refine take_to (i := 8) (oi := _) (v := ?_) (some 15) rfl (by kernel_rfl) (by kernel_rfl) (by kernel_rfl) (by kernel_rfl) (fun _ _ _ h => h) (Or.inl ⟨by kernel_rfl, ?_⟩) (by assumption) ?_
    case refine_2 => (intro w hSw; (try dsimp only at hSw); (obtain ⟨q1, q2, q3⟩ := new3 hSw; have c1a := cell_at q1 0 _ rfl; have c1b := cell_at q1 1 _ rfl; have c2a := cell_at q2 0 _ rfl; have c2b := cell_at q2 1 _ rfl; have c3a := cell_at q3 0 _ rfl; have c3b := cell_at q3 1 _ rfl); go_simp; try with_reducible rfl)
    try simp only [Act.put, List.setIfInBounds_toArray, List.set_cons_zero, List.set_cons_succ]
    refine wpAnyH_ready (rs := [9]) (by kernel_rfl) (by simp) ?_
    refine AllReadyH.cons (o := _) rfl (fun K hK => ?_) AllReadyH.nil
    go_simp
    go_at_call 149
    refine (HO _).out.mono ?_
    rintro e w2 ⟨rfl, hk2⟩
    try go_wp2_with fail
    refine hK.out _ _ (hHeld.then hk2) (fun hHeld => ?_)
    clear hK K
    try simp only [Act.put, List.setIfInBounds_toArray, List.set_cons_zero, List.set_cons_succ]
    refine take_to (i := 10) (oi := _) (v := ?_) (some 17) rfl (by kernel_rfl) (by kernel_rfl) (by kernel_rfl) (by kernel_rfl) (fun _ _ _ h => h) (Or.inl ⟨by kernel_rfl, ?_⟩) (by assumption) ?_
    case refine_2 => (intro w hSw; (try dsimp only at hSw); go_simp; try with_reducible rfl)
    try simp only [Act.put, List.setIfInBounds_toArray, List.set_cons_zero, List.set_cons_succ]
    refine take_to (i := 11) (oi := _) (v := ?_) (some 18) rfl (by kernel_rfl) (by kernel_rfl) (by kernel_rfl) (by kernel_rfl) (fun _ _ _ h => h) (Or.inl ⟨by kernel_rfl, ?_⟩) (by assumption) ?_
    case refine_2 => (intro w hSw; (try dsimp only at hSw); go_simp; try with_reducible rfl)
    try simp only [Act.put, List.setIfInBounds_toArray, List.set_cons_zero, List.set_cons_succ]
    refine take_to (i := 12) (oi := _) (v := ?_) (some 19) rfl (by kernel_rfl) (by kernel_rfl) (by kernel_rfl) (by kernel_rfl) (fun _ _ _ h => h) (Or.inl ⟨by kernel_rfl, ?_⟩) (by assumption) ?_
    case refine_2 => (intro w hSw; (try dsimp only at hSw); go_simp; try with_reducible rfl)
    try simp only [Act.put, List.setIfInBounds_toArray, List.set_cons_zero, List.set_cons_succ]
    refine take_to (i := 13) (oi := _) (v := ?_) (some 20) rfl (by kernel_rfl) (by kernel_rfl) (by kernel_rfl) (by kernel_rfl) (fun _ _ _ h => h) (Or.inl ⟨by kernel_rfl, ?_⟩) (by assumption) ?_
    case refine_2 => (intro w hSw; (try dsimp only at hSw); (obtain ⟨q1, q2, q3⟩ := new3 hSw; have c1a := cell_at q1 0 _ rfl; have c1b := cell_at q1 1 _ rfl; have c2a := cell_at q2 0 _ rfl; have c2b := cell_at q2 1 _ rfl; have c3a := cell_at q3 0 _ rfl; have c3b := cell_at q3 1 _ rfl); go_simp; try with_reducible rfl)
    try simp only [Act.put, List.setIfInBounds_toArray, List.set_cons_zero, List.set_cons_succ]
    refine take_to (i := 14) (oi := _) (v := ?_) (some 21) rfl (by kernel_rfl) (by kernel_rfl) (by kernel_rfl) (by kernel_rfl) (fun _ _ _ h => h) (Or.inl ⟨by kernel_rfl, ?_⟩) (by assumption) ?_
    case refine_2 => (intro w hSw; (try dsimp only at hSw); (obtain ⟨q1, q2, q3⟩ := new3 hSw; have c1a := cell_at q1 0 _ rfl; have c1b := cell_at q1 1 _ rfl; have c2a := cell_at q2 0 _ rfl; have c2b := cell_at q2 1 _ rfl; have c3a := cell_at q3 0 _ rfl; have c3b := cell_at q3 1 _ rfl); go_simp; try with_reducible rfl)
    try simp only [Act.put, List.setIfInBounds_toArray, List.set_cons_zero, List.set_cons_succ]
    refine take_to (i := 16) (oi := _) (v := ?_) (some 23) rfl (by kernel_rfl) (by kernel_rfl) (by kernel_rfl) (by kernel_rfl) (fun _ _ _ h => h) (Or.inl ⟨by kernel_rfl, ?_⟩) (by assumption) ?_
    case refine_2 => (intro w hSw; (try dsimp only at hSw); (obtain ⟨q1, q2, q3⟩ := new3 hSw; have c1a := cell_at q1 0 _ rfl; have c1b := cell_at q1 1 _ rfl; have c2a := cell_at q2 0 _ rfl; have c2b := cell_at q2 1 _ rfl; have c3a := cell_at q3 0 _ rfl; have c3b := cell_at q3 1 _ rfl); go_simp; try with_reducible rfl)
    try simp only [Act.put, List.setIfInBounds_toArray, List.set_cons_zero, List.set_cons_succ]
    refine wpAnyH_ready (rs := [15]) (by kernel_rfl) (by simp) ?_
    refine AllReadyH.cons (o := _) rfl (fun K hK => ?_) AllReadyH.nil
    go_simp
    go_at_call 151
    refine (HS _).out.mono ?_
    rintro e w3 ⟨rfl, hk3⟩
    try go_wp2_with fail
    refine hK.out _ _ (hHeld.then hk3) (fun hHeld => ?_)
    clear hK K
    try simp only [Act.put, List.setIfInBounds_toArray, List.set_cons_zero, List.set_cons_succ]
    refine wpAnyH_ready (rs := [17]) (by kernel_rfl) (by simp) ?_
    refine AllReadyH.cons (o := _) rfl (fun K hK => ?_) AllReadyH.nil
    go_simp
    go_at_call 150
    refine (HH _).out.mono ?_
    rintro e w4 ⟨rfl, hk4⟩
    try go_wp2_with fail
    refine hK.out _ _ (hHeld.then hk4) (fun hHeld => ?_)
    clear hK K
    try simp only [Act.put, List.setIfInBounds_toArray, List.set_cons_zero, List.set_cons_succ]
    refine take_to (i := 18) (oi := _) (v := ?_) (some 25) rfl (by kernel_rfl) (by kernel_rfl) (by kernel_rfl) (by kernel_rfl) (fun _ _ _ h => h) (Or.inl ⟨by kernel_rfl, ?_⟩) (by assumption) ?_
    case refine_2 => (intro w hSw; (try dsimp only at hSw); go_simp; try with_reducible rfl)
    try simp only [Act.put, List.setIfInBounds_toArray, List.set_cons_zero, List.set_cons_succ]
    refine take_to (i := 19) (oi := _) (v := ?_) (some 6) rfl (by kernel_rfl) (by kernel_rfl) (by kernel_rfl) (by kernel_rfl) (fun _ _ _ h => h) (Or.inl ⟨by kernel_rfl, ?_⟩) (by assumption) ?_
    case refine_2 => (intro w hSw; (try dsimp only at hSw); go_simp; try with_reducible rfl)
    try simp only [Act.put, List.setIfInBounds_toArray, List.set_cons_zero, List.set_cons_succ]
    refine wpAnyH_done (by kernel_rfl) ?_ _
    have HK := Lib.hid ((((Kept.alloc Nob w _).then (Kept.alloc Nob _ _)).then (Kept.alloc Nob _ _)).then hHeld)
    go_wp2_with fail
    go_ret
    exact ⟨ret_bool (by rw [HR.out]; simp), HK.out⟩
  · have hs : (s == 0) = false := beq_eq_false_iff_ne.2 h0
    have HR2 := Lib.hid (show r = false by rw [HR.out, decide_eq_false h0]; rfl)
    clear h0
    go_wp2_with fail
    refine wp_region_held_drew (S := (fun w' => Kept Nob (((w.alloc (.cells #[.int .i64 x1, .int .i64 y1] 42)).alloc (.cells #[.int .i64 x2, .int .i64 y2] 42)).alloc (.cells #[.int .i64 x3, .int .i64 y3] 42)) w')) (by kernel_rfl) ?_ (fun hHeld => ?_)
    · first | assumption | exact Kept.drew _ _
    refine take_to (i := 0) (oi := _) (v := ?_) (some 7) rfl (by kernel_rfl) (by kernel_rfl) (by kernel_rfl) (by kernel_rfl) (fun _ _ _ h => h) (Or.inl ⟨by kernel_rfl, ?_⟩) (by assumption) ?_
    case refine_2 => (intro w hSw; (try dsimp only at hSw); (obtain ⟨q1, q2, q3⟩ := new3 hSw; have c1a := cell_at q1 0 _ rfl; have c1b := cell_at q1 1 _ rfl; have c2a := cell_at q2 0 _ rfl; have c2b := cell_at q2 1 _ rfl; have c3a := cell_at q3 0 _ rfl; have c3b := cell_at q3 1 _ rfl); go_simp; try with_reducible rfl)
    try simp only [Act.put, List.setIfInBounds_toArray, List.set_cons_zero, List.set_cons_succ]
    refine take_to (i := 1) (oi := _) (v := ?_) (some 8) rfl (by kernel_rfl) (by kernel_rfl) (by kernel_rfl) (by kernel_rfl) (fun _ _ _ h => h) (Or.inl ⟨by kernel_rfl, ?_⟩) (by assumption) ?_
    case refine_2 => (intro w hSw; (try dsimp only at hSw); (obtain ⟨q1, q2, q3⟩ := new3 hSw; have c1a := cell_at q1 0 _ rfl; have c1b := cell_at q1 1 _ rfl; have c2a := cell_at q2 0 _ rfl; have c2b := cell_at q2 1 _ rfl; have c3a := cell_at q3 0 _ rfl; have c3b := cell_at q3 1 _ rfl); go_simp; try with_reducible rfl)
    try simp only [Act.put, List.setIfInBounds_toArray, List.set_cons_zero, List.set_cons_succ]
    refine take_to (i := 2) (oi := _) (v := ?_) (some 9) rfl (by kernel_rfl) (by kernel_rfl) (by kernel_rfl) (by kernel_rfl) (fun _ _ _ h => h) (Or.inl ⟨by kernel_rfl, ?_⟩) (by assumption) ?_
    case refine_2 => (intro w hSw; (try dsimp only at hSw); (obtain ⟨q1, q2, q3⟩ := new3 hSw; have c1a := cell_at q1 0 _ rfl; have c1b := cell_at q1 1 _ rfl; have c2a := cell_at q2 0 _ rfl; have c2b := cell_at q2 1 _ rfl; have c3a := cell_at q3 0 _ rfl; have c3b := cell_at q3 1 _ rfl); go_simp; try with_reducible rfl)
    try simp only [Act.put, List.setIfInBounds_toArray, List.set_cons_zero, List.set_cons_succ]
    refine wpAnyH_ready (rs := [3]) (by kernel_rfl) (by simp) ?_
    refine AllReadyH.cons (o := _) rfl (fun K hK => ?_) AllReadyH.nil
    go_simp
    refine hK.out _ _ (hHeld.then (Kept.alloc Nob _ _)) (fun hHeld => ?_)
    clear hK K
    try simp only [Act.put, List.setIfInBounds_toArray, List.set_cons_zero, List.set_cons_succ]
    refine wpAnyH_ready (rs := [4]) (by kernel_rfl) (by simp) ?_
    refine AllReadyH.cons (o := _) rfl (fun K hK => ?_) AllReadyH.nil
    go_simp
    go_at_call 148
    refine (HM _ _ (by simp)).out.mono ?_
    rintro e w1 ⟨rfl, hk1⟩
    try go_wp2_with fail
    refine hK.out _ _ (hk1) (fun hHeld => ?_)
    clear hK K
    try simp only [Act.put, List.setIfInBounds_toArray, List.set_cons_zero, List.set_cons_succ]
    refine take_to (i := 5) (oi := _) (v := ?_) (some 12) rfl (by kernel_rfl) (by kernel_rfl) (by kernel_rfl) (by kernel_rfl) (fun _ _ _ h => h) (Or.inl ⟨by kernel_rfl, ?_⟩) (by assumption) ?_
    case refine_2 => (intro w hSw; (try dsimp only at hSw); go_simp; try with_reducible rfl)
    try simp only [Act.put, List.setIfInBounds_toArray, List.set_cons_zero, List.set_cons_succ]
    refine take_to (i := 6) (oi := _) (v := ?_) (some 13) rfl (by kernel_rfl) (by kernel_rfl) (by kernel_rfl) (by kernel_rfl) (fun _ _ _ h => h) (Or.inl ⟨by kernel_rfl, ?_⟩) (by assumption) ?_
    case refine_2 => (intro w hSw; (try dsimp only at hSw); (obtain ⟨q1, q2, q3⟩ := new3 hSw; have c1a := cell_at q1 0 _ rfl; have c1b := cell_at q1 1 _ rfl; have c2a := cell_at q2 0 _ rfl; have c2b := cell_at q2 1 _ rfl; have c3a := cell_at q3 0 _ rfl; have c3b := cell_at q3 1 _ rfl); go_simp; try with_reducible rfl)
    try simp only [Act.put, List.setIfInBounds_toArray, List.set_cons_zero, List.set_cons_succ]
    refine take_to (i := 7) (oi := _) (v := ?_) (some 14) rfl (by kernel_rfl) (by kernel_rfl) (by kernel_rfl) (by kernel_rfl) (fun _ _ _ h => h) (Or.inl ⟨by kernel_rfl, ?_⟩) (by assumption) ?_
    case refine_2 => (intro w hSw; (try dsimp only at hSw); (obtain ⟨q1, q2, q3⟩ := new3 hSw; have c1a := cell_at q1 0 _ rfl; have c1b := cell_at q1 1 _ rfl; have c2a := cell_at q2 0 _ rfl; have c2b := cell_at q2 1 _ rfl; have c3a := cell_at q3 0 _ rfl; have c3b := cell_at q3 1 _ rfl); go_simp; try with_reducible rfl)
    try simp only [Act.put, List.setIfInBounds_toArray, List.set_cons_zero, List.set_cons_succ]
    refine take_to (i := 8) (oi := _) (v := ?_) (some 15) rfl (by kernel_rfl) (by kernel_rfl) (by kernel_rfl) (by kernel_rfl) (fun _ _ _ h => h) (Or.inl ⟨by kernel_rfl, ?_⟩) (by assumption) ?_
    case refine_2 => (intro w hSw; (try dsimp only at hSw); (obtain ⟨q1, q2, q3⟩ := new3 hSw; have c1a := cell_at q1 0 _ rfl; have c1b := cell_at q1 1 _ rfl; have c2a := cell_at q2 0 _ rfl; have c2b := cell_at q2 1 _ rfl; have c3a := cell_at q3 0 _ rfl; have c3b := cell_at q3 1 _ rfl); go_simp; try with_reducible rfl)
    try simp only [Act.put, List.setIfInBounds_toArray, List.set_cons_zero, List.set_cons_succ]
    refine wpAnyH_ready (rs := [9]) (by kernel_rfl) (by simp) ?_
    refine AllReadyH.cons (o := _) rfl (fun K hK => ?_) AllReadyH.nil
    go_simp
    go_at_call 149
    refine (HO _).out.mono ?_
    rintro e w2 ⟨rfl, hk2⟩
    try go_wp2_with fail
    refine hK.out _ _ (hHeld.then hk2) (fun hHeld => ?_)
    clear hK K
    try simp only [Act.put, List.setIfInBounds_toArray, List.set_cons_zero, List.set_cons_succ]
    refine take_to (i := 10) (oi := _) (v := ?_) (some 17) rfl (by kernel_rfl) (by kernel_rfl) (by kernel_rfl) (by kernel_rfl) (fun _ _ _ h => h) (Or.inl ⟨by kernel_rfl, ?_⟩) (by assumption) ?_
    case refine_2 => (intro w hSw; (try dsimp only at hSw); go_simp; try with_reducible rfl)
    try simp only [Act.put, List.setIfInBounds_toArray, List.set_cons_zero, List.set_cons_succ]
    refine take_to (i := 11) (oi := _) (v := ?_) (some 18) rfl (by kernel_rfl) (by kernel_rfl) (by kernel_rfl) (by kernel_rfl) (fun _ _ _ h => h) (Or.inl ⟨by kernel_rfl, ?_⟩) (by assumption) ?_
    case refine_2 => (intro w hSw; (try dsimp only at hSw); go_simp; try with_reducible rfl)
    try simp only [Act.put, List.setIfInBounds_toArray, List.set_cons_zero, List.set_cons_succ]
    refine take_to (i := 12) (oi := _) (v := ?_) (some 19) rfl (by kernel_rfl) (by kernel_rfl) (by kernel_rfl) (by kernel_rfl) (fun _ _ _ h => h) (Or.inl ⟨by kernel_rfl, ?_⟩) (by assumption) ?_
    case refine_2 => (intro w hSw; (try dsimp only at hSw); go_simp; try with_reducible rfl)
    try simp only [Act.put, List.setIfInBounds_toArray, List.set_cons_zero, List.set_cons_succ]
    refine take_to (i := 13) (oi := _) (v := undef) (some 20) rfl (by kernel_rfl) (by kernel_rfl) (by kernel_rfl) (by kernel_rfl) (fun _ _ _ h => h) (Or.inr ⟨by kernel_rfl, rfl⟩) (by assumption) ?_
    try simp only [Act.put, List.setIfInBounds_toArray, List.set_cons_zero, List.set_cons_succ]
    refine take_to (i := 14) (oi := _) (v := undef) (some 21) rfl (by kernel_rfl) (by kernel_rfl) (by kernel_rfl) (by kernel_rfl) (fun _ _ _ h => h) (Or.inr ⟨by kernel_rfl, rfl⟩) (by assumption) ?_
    try simp only [Act.put, List.setIfInBounds_toArray, List.set_cons_zero, List.set_cons_succ]
    refine take_to (i := 15) (oi := _) (v := undef) (some 22) rfl (by kernel_rfl) (by kernel_rfl) (by kernel_rfl) (by kernel_rfl) (fun _ _ _ h => h) (Or.inr ⟨by kernel_rfl, rfl⟩) (by assumption) ?_
    try simp only [Act.put, List.setIfInBounds_toArray, List.set_cons_zero, List.set_cons_succ]
    refine take_to (i := 16) (oi := _) (v := undef) (some 23) rfl (by kernel_rfl) (by kernel_rfl) (by kernel_rfl) (by kernel_rfl) (fun _ _ _ h => h) (Or.inr ⟨by kernel_rfl, rfl⟩) (by assumption) ?_
    try simp only [Act.put, List.setIfInBounds_toArray, List.set_cons_zero, List.set_cons_succ]
    refine take_to (i := 17) (oi := _) (v := undef) (some 24) rfl (by kernel_rfl) (by kernel_rfl) (by kernel_rfl) (by kernel_rfl) (fun _ _ _ h => h) (Or.inr ⟨by kernel_rfl, rfl⟩) (by assumption) ?_
    try simp only [Act.put, List.setIfInBounds_toArray, List.set_cons_zero, List.set_cons_succ]
    refine take_to (i := 18) (oi := _) (v := ?_) (some 25) rfl (by kernel_rfl) (by kernel_rfl) (by kernel_rfl) (by kernel_rfl) (fun _ _ _ h => h) (Or.inl ⟨by kernel_rfl, ?_⟩) (by assumption) ?_
    case refine_2 => (intro w hSw; (try dsimp only at hSw); go_simp; try with_reducible rfl)
    try simp only [Act.put, List.setIfInBounds_toArray, List.set_cons_zero, List.set_cons_succ]
    refine take_to (i := 19) (oi := _) (v := ?_) (some 6) rfl (by kernel_rfl) (by kernel_rfl) (by kernel_rfl) (by kernel_rfl) (fun _ _ _ h => h) (Or.inl ⟨by kernel_rfl, ?_⟩) (by assumption) ?_
    case refine_2 => (intro w hSw; (try dsimp only at hSw); go_simp; try with_reducible rfl)
    try simp only [Act.put, List.setIfInBounds_toArray, List.set_cons_zero, List.set_cons_succ]
    refine wpAnyH_done (by kernel_rfl) ?_ _
    have HK := Lib.hid ((((Kept.alloc Nob w _).then (Kept.alloc Nob _ _)).then (Kept.alloc Nob _ _)).then hHeld)
    go_wp2_with fail
    go_ret
    exact ⟨ret_bool HR2.out.symm, HK.out⟩
end Go.Proofs.YthjiobmglebmdaaGreatDoor
