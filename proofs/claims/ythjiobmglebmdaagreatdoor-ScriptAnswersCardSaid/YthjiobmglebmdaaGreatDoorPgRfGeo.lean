/- The document's own plane: Point, CheckBox, Cross, dot, On, Orient, Proper, Meet, over. Printed by gen_rf.py. -/
import Derived.Test.YthjiobmglebmdaaGreatDoorPgScMeet
namespace Go.Proofs.YthjiobmglebmdaaGreatDoor
open Go.RowKit
open Go.Proofs.YthjiobmglebmdaaGreatDoor.Geo

theorem ref_Point (w : World) (x y : Int) (r : Bool) (h : ok (x, y) = r) :
    Calls Tryz.prog 36 #[.agg #[.int .i64 x, .int .i64 y]] w fun e w' => e = .returned (.bool r) ∧ Kept Nob w w' := by
  subst h
  by_cases a0 : -1073741823 ≤ x
  case neg =>
    have hb : ok (x, y) = false := by first | (simp [ok, okC]; done) | (simp [ok, okC]; omega)
    rw [hb]
    clear hb
    go_enter Tryz.func36, Tryz.ntmps36
    go_wp2
    go_ret
    exact ⟨rfl, Kept.alloc _ _ _⟩
  case pos =>
    by_cases a1 : x ≤ 1073741823
    case neg =>
      have hb : ok (x, y) = false := by first | (simp [ok, okC]; done) | (simp [ok, okC]; omega)
      rw [hb]
      clear hb
      go_enter Tryz.func36, Tryz.ntmps36
      go_wp2
      go_ret
      exact ⟨rfl, Kept.alloc _ _ _⟩
    case pos =>
      by_cases a2 : -1073741823 ≤ y
      case neg =>
        have hb : ok (x, y) = false := by first | (simp [ok, okC]; done) | (simp [ok, okC]; omega)
        rw [hb]
        clear hb
        go_enter Tryz.func36, Tryz.ntmps36
        go_wp2
        go_ret
        exact ⟨rfl, Kept.alloc _ _ _⟩
      case pos =>
        by_cases a3 : y ≤ 1073741823
        case neg =>
          have hb : ok (x, y) = false := by first | (simp [ok, okC]; done) | (simp [ok, okC]; omega)
          rw [hb]
          clear hb
          go_enter Tryz.func36, Tryz.ntmps36
          go_wp2
          go_ret
          exact ⟨rfl, Kept.alloc _ _ _⟩
        case pos =>
          have hb : ok (x, y) = true := by first | (simp [ok, okC]; done) | (simp [ok, okC]; omega)
          rw [hb]
          clear hb
          go_enter Tryz.func36, Tryz.ntmps36
          go_wp2
          go_ret
          exact ⟨rfl, Kept.alloc _ _ _⟩
/-- what CheckBox answers -/
def cbCode (x1 y1 x2 y2 : Int) : Int := if ok (x1, y1) = true then if ok (x2, y2) = true then if x2 < x1 then 1 else if y2 < y1 then 1 else 0 else 2 else 2
theorem cbCode_zero (x1 y1 x2 y2 : Int) : cbCode x1 y1 x2 y2 = 0 ↔ bxOk x1 y1 x2 y2 = true := by
  unfold cbCode bxOk
  simp only [Bool.and_eq_true, decide_eq_true_eq]
  by_cases a : ok (x1, y1) = true
  · by_cases b : ok (x2, y2) = true
    · by_cases c : x2 < x1
      · first | (simp [a, b, c]; done) | (simp [a, b, c]; omega)
      · by_cases d : y2 < y1
        · first | (simp [a, b, c, d]; done) | (simp [a, b, c, d]; omega)
        · first | (simp [a, b, c, d]; done) | (simp [a, b, c, d]; omega)
    · simp [a, b]
  · simp [a]
set_option maxHeartbeats 1000000 in
theorem ref_CheckBox (w : World) (x1 y1 x2 y2 : Int) :
    Calls Tryz.prog 37 #[.agg #[.int .i64 x1, .int .i64 y1, .int .i64 x2, .int .i64 y2]] w fun e w' => e = .returned (.int .i64 (cbCode x1 y1 x2 y2)) ∧ Kept Nob w w' := by
  obtain ⟨r1, e1⟩ : ∃ r, ok (x1, y1) = r := ⟨_, rfl⟩
  obtain ⟨r2, e2⟩ : ∃ r, ok (x2, y2) = r := ⟨_, rfl⟩
  have HP1 := fun wx : World => Lib.hid (ref_Point wx x1 y1 r1 e1)
  have HP2 := fun wx : World => Lib.hid (ref_Point wx x2 y2 r2 e2)
  have HR : Hid (cbCode x1 y1 x2 y2 = if r1 = true then if r2 = true then if x2 < x1 then 1 else if y2 < y1 then 1 else 0 else 2 else 2) := Lib.hid (by unfold cbCode; rw [e1, e2])
  clear e1 e2
  generalize cbCode x1 y1 x2 y2 = res at *
  go_enter Tryz.func37, Tryz.ntmps37
  go_wp2_with fail
  refine (HP1 _).out.mono ?_
  rintro e wa ⟨rfl, hk1⟩
  have HB1 := Lib.hid hk1
  have q1 := new1 HB1.out
  have c1a := cell_at q1 0 _ rfl
  have c1b := cell_at q1 1 _ rfl
  have c2a := cell_at q1 2 _ rfl
  have c2b := cell_at q1 3 _ rfl
  clear q1
  clear hk1
  have HK1 := Lib.hid ((Kept.alloc Nob w _).then HB1.out)
  cases r1 with
  | false =>
    go_wp2_with fail
    go_ret
    exact ⟨by rw [HR.out]; rfl, HK1.out⟩
  | true =>
    go_wp2_with fail
    refine (HP2 _).out.mono ?_
    rintro e wb ⟨rfl, hk2⟩
    clear c1a c1b c2a c2b
    have HB2 := Lib.hid (HB1.out.then hk2)
    have q1 := new1 HB2.out
    have c1a := cell_at q1 0 _ rfl
    have c1b := cell_at q1 1 _ rfl
    have c2a := cell_at q1 2 _ rfl
    have c2b := cell_at q1 3 _ rfl
    clear q1
    clear hk2
    have HK2 := Lib.hid ((Kept.alloc Nob w _).then HB2.out)
    cases r2 with
    | false =>
      go_wp2_with fail
      go_ret
      exact ⟨by rw [HR.out]; rfl, HK2.out⟩
    | true =>
      by_cases a : x2 < x1
      · have HR' : Hid (res = 1) := Lib.hid (by rw [HR.out]; simp [a])
        clear HR
        go_wp2_with fail
        go_ret
        exact ⟨by rw [HR'.out]; rfl, HK2.out⟩
      · by_cases b : y2 < y1
        · have HR' : Hid (res = 1) := Lib.hid (by rw [HR.out]; simp [a, b])
          clear HR
          go_wp2_with fail
          go_ret
          exact ⟨by rw [HR'.out]; rfl, HK2.out⟩
        · have HR' : Hid (res = 0) := Lib.hid (by rw [HR.out]; simp [a, b])
          clear HR
          go_wp2_with fail
          go_ret
          exact ⟨by rw [HR'.out]; rfl, HK2.out⟩
set_option maxRecDepth 100000 in
set_option maxHeartbeats 4000000 in
theorem ref_Cross (w : World) (x1 y1 x2 y2 x3 y3 : Int) (h1 : ok (x1, y1) = true) (h2 : ok (x2, y2) = true) (h3 : ok (x3, y3) = true) :
    Calls Tryz.prog 116 #[.agg #[.int .i64 x1, .int .i64 y1], .agg #[.int .i64 x2, .int .i64 y2], .agg #[.int .i64 x3, .int .i64 y3]] w fun e w' => e = .returned (.int .i64 (cr (x1, y1) (x2, y2) (x3, y3))) ∧ Kept Nob w w' := by
  have HP1 := fun wx : World => Lib.hid (ref_Point wx x1 y1 true h1)
  have HP2 := fun wx : World => Lib.hid (ref_Point wx x2 y2 true h2)
  have HP3 := fun wx : World => Lib.hid (ref_Point wx x3 y3 true h3)
  have hb := cr_bound h1 h2 h3
  rw [ok_iff] at h1 h2 h3
  simp only at hb h1 h2 h3
  have b1 : wrap64 (x2 - x1) = x2 - x1 := IntWalk.wrap64_in _ (by omega)
  have b2 : wrap64 (y3 - y1) = y3 - y1 := IntWalk.wrap64_in _ (by omega)
  have b3 : wrap64 (y2 - y1) = y2 - y1 := IntWalk.wrap64_in _ (by omega)
  have b4 : wrap64 (x3 - x1) = x3 - x1 := IntWalk.wrap64_in _ (by omega)
  have b5 : wrap64 ((x2 - x1) * (y3 - y1)) = (x2 - x1) * (y3 - y1) := IntWalk.wrap64_in _ (by omega)
  have b6 : wrap64 ((y2 - y1) * (x3 - x1)) = (y2 - y1) * (x3 - x1) := IntWalk.wrap64_in _ (by omega)
  have b7 : wrap64 ((x2 - x1) * (y3 - y1) - (y2 - y1) * (x3 - x1)) = (x2 - x1) * (y3 - y1) - (y2 - y1) * (x3 - x1) := IntWalk.wrap64_in _ (by omega)
  clear h1 h2 h3 hb
  go_enter Tryz.func116, Tryz.ntmps116
  go_wp2_with fail
  refine (HP1 _).out.mono ?_
  rintro e w1 ⟨rfl, hk1⟩
  have HB1 := Lib.hid hk1
  obtain ⟨q1, q2, q3⟩ := new3 HB1.out
  have c1a := cell_at q1 0 _ rfl
  have c1b := cell_at q1 1 _ rfl
  have c2a := cell_at q2 0 _ rfl
  have c2b := cell_at q2 1 _ rfl
  have c3a := cell_at q3 0 _ rfl
  have c3b := cell_at q3 1 _ rfl
  clear q1 q2 q3
  clear hk1
  go_wp2_with fail
  refine (HP2 _).out.mono ?_
  rintro e w2 ⟨rfl, hk2⟩
  clear c1a c1b c2a c2b c3a c3b
  have HB2 := Lib.hid (HB1.out.then hk2)
  obtain ⟨q1, q2, q3⟩ := new3 HB2.out
  have c1a := cell_at q1 0 _ rfl
  have c1b := cell_at q1 1 _ rfl
  have c2a := cell_at q2 0 _ rfl
  have c2b := cell_at q2 1 _ rfl
  have c3a := cell_at q3 0 _ rfl
  have c3b := cell_at q3 1 _ rfl
  clear q1 q2 q3
  clear hk2
  go_wp2_with fail
  refine (HP3 _).out.mono ?_
  rintro e w3 ⟨rfl, hk3⟩
  clear c1a c1b c2a c2b c3a c3b
  have HB3 := Lib.hid (HB2.out.then hk3)
  obtain ⟨q1, q2, q3⟩ := new3 HB3.out
  have c1a := cell_at q1 0 _ rfl
  have c1b := cell_at q1 1 _ rfl
  have c2a := cell_at q2 0 _ rfl
  have c2b := cell_at q2 1 _ rfl
  have c3a := cell_at q3 0 _ rfl
  have c3b := cell_at q3 1 _ rfl
  clear q1 q2 q3
  clear hk3
  have HK := Lib.hid ((((Kept.alloc Nob w _).then (Kept.alloc Nob _ _)).then (Kept.alloc Nob _ _)).then HB3.out)
  go_wp2_with fail
  go_ret
  exact ⟨ret_int b7, HK.out⟩
set_option maxRecDepth 100000 in
set_option maxHeartbeats 4000000 in
theorem ref_dot (w : World) (x1 y1 x2 y2 x3 y3 : Int) (h1 : ok (x1, y1) = true) (h2 : ok (x2, y2) = true) (h3 : ok (x3, y3) = true) :
    Calls Tryz.prog 117 #[.agg #[.int .i64 x1, .int .i64 y1], .agg #[.int .i64 x2, .int .i64 y2], .agg #[.int .i64 x3, .int .i64 y3]] w fun e w' => e = .returned (.int .i64 (dt (x1, y1) (x2, y2) (x3, y3))) ∧ Kept Nob w w' := by
  have hb := dt_bound h1 h2 h3
  rw [ok_iff] at h1 h2 h3
  simp only at hb h1 h2 h3
  have b1 : wrap64 (x2 - x1) = x2 - x1 := IntWalk.wrap64_in _ (by omega)
  have b2 : wrap64 (y3 - y1) = y3 - y1 := IntWalk.wrap64_in _ (by omega)
  have b3 : wrap64 (y2 - y1) = y2 - y1 := IntWalk.wrap64_in _ (by omega)
  have b4 : wrap64 (x3 - x1) = x3 - x1 := IntWalk.wrap64_in _ (by omega)
  have b5 : wrap64 ((x2 - x1) * (x3 - x1)) = (x2 - x1) * (x3 - x1) := IntWalk.wrap64_in _ (by omega)
  have b6 : wrap64 ((y2 - y1) * (y3 - y1)) = (y2 - y1) * (y3 - y1) := IntWalk.wrap64_in _ (by omega)
  have b7 : wrap64 ((x2 - x1) * (x3 - x1) + (y2 - y1) * (y3 - y1)) = (x2 - x1) * (x3 - x1) + (y2 - y1) * (y3 - y1) := IntWalk.wrap64_in _ (by omega)
  clear h1 h2 h3 hb
  go_enter Tryz.func117, Tryz.ntmps117
  go_wp2_with fail
  go_ret
  exact ⟨ret_int b7, (((Kept.alloc Nob w _).then (Kept.alloc Nob _ _)).then (Kept.alloc Nob _ _))⟩
set_option maxRecDepth 100000 in
set_option maxHeartbeats 4000000 in
theorem ref_Orient (w : World) (x1 y1 x2 y2 x3 y3 : Int) (h1 : ok (x1, y1) = true) (h2 : ok (x2, y2) = true) (h3 : ok (x3, y3) = true) :
    Calls Tryz.prog 138 #[.agg #[.int .i64 x1, .int .i64 y1], .agg #[.int .i64 x2, .int .i64 y2], .agg #[.int .i64 x3, .int .i64 y3]] w fun e w' => e = .returned (.int .i64 (sg (cr (x1, y1) (x2, y2) (x3, y3)))) ∧ Kept Nob w w' := by
  have HC := fun (wx : World) => Lib.hid (ref_Cross wx x1 y1 x2 y2 x3 y3 h1 h2 h3)
  clear h1 h2 h3
  generalize cr (x1, y1) (x2, y2) (x3, y3) = n at HC ⊢
  go_enter Tryz.func138, Tryz.ntmps138
  go_wp2_with fail
  refine (HC _).out.mono ?_
  rintro e w' ⟨rfl, hk⟩
  have HK := Lib.hid ((((Kept.alloc Nob w _).then (Kept.alloc Nob _ _)).then (Kept.alloc Nob _ _)).then hk)
  clear hk
  by_cases a : 0 < n
  · have HR : Hid (sg n = 1) := Lib.hid (by unfold sg; rw [if_neg (by omega), if_pos a])
    go_wp2_with fail
    go_ret
    exact ⟨by rw [HR.out]; rfl, HK.out⟩
  · by_cases b : n < 0
    · have HR : Hid (sg n = -1) := Lib.hid (by unfold sg; rw [if_pos b])
      go_wp2_with fail
      go_ret
      exact ⟨by rw [HR.out]; rfl, HK.out⟩
    · have HR : Hid (sg n = 0) := Lib.hid (by unfold sg; rw [if_neg b, if_neg a])
      go_wp2_with fail
      go_ret
      exact ⟨by rw [HR.out]; rfl, HK.out⟩
set_option maxRecDepth 100000 in
set_option maxHeartbeats 4000000 in
theorem ref_On (w : World) (x1 y1 x2 y2 x3 y3 : Int) (h1 : ok (x1, y1) = true) (h2 : ok (x2, y2) = true) (h3 : ok (x3, y3) = true) :
    Calls Tryz.prog 119 #[.agg #[.int .i64 x1, .int .i64 y1], .agg #[.int .i64 x2, .int .i64 y2], .agg #[.int .i64 x3, .int .i64 y3]] w fun e w' => e = .returned (.bool (on (x1, y1) (x2, y2) (x3, y3))) ∧ Kept Nob w w' := by
  have HP1 := fun wx : World => Lib.hid (ref_Point wx x1 y1 true h1)
  have HP2 := fun wx : World => Lib.hid (ref_Point wx x2 y2 true h2)
  have HP3 := fun wx : World => Lib.hid (ref_Point wx x3 y3 true h3)
  have HC := fun (wx : World) => Lib.hid (ref_Cross wx x1 y1 x2 y2 x3 y3 h1 h2 h3)
  obtain ⟨r, hr⟩ : ∃ r, on (x1, y1) (x2, y2) (x3, y3) = r := ⟨_, rfl⟩
  rw [hr]
  unfold on inBox at hr
  simp only at hr
  generalize cr (x1, y1) (x2, y2) (x3, y3) = n at *
  have HR := Lib.hid hr
  clear h1 h2 h3 hr
  go_enter Tryz.func119, Tryz.ntmps119
  go_wp2_with fail
  refine (HP1 _).out.mono ?_
  rintro e w1 ⟨rfl, hk1⟩
  have HB1 := Lib.hid hk1
  obtain ⟨q1, q2, q3⟩ := new3 HB1.out
  have c1a := cell_at q1 0 _ rfl
  have c1b := cell_at q1 1 _ rfl
  have c2a := cell_at q2 0 _ rfl
  have c2b := cell_at q2 1 _ rfl
  have c3a := cell_at q3 0 _ rfl
  have c3b := cell_at q3 1 _ rfl
  clear q1 q2 q3
  clear hk1
  go_wp2_with fail
  refine (HP2 _).out.mono ?_
  rintro e w2 ⟨rfl, hk2⟩
  clear c1a c1b c2a c2b c3a c3b
  have HB2 := Lib.hid (HB1.out.then hk2)
  obtain ⟨q1, q2, q3⟩ := new3 HB2.out
  have c1a := cell_at q1 0 _ rfl
  have c1b := cell_at q1 1 _ rfl
  have c2a := cell_at q2 0 _ rfl
  have c2b := cell_at q2 1 _ rfl
  have c3a := cell_at q3 0 _ rfl
  have c3b := cell_at q3 1 _ rfl
  clear q1 q2 q3
  clear hk2
  go_wp2_with fail
  refine (HP3 _).out.mono ?_
  rintro e w3 ⟨rfl, hk3⟩
  clear c1a c1b c2a c2b c3a c3b
  have HB3 := Lib.hid (HB2.out.then hk3)
  obtain ⟨q1, q2, q3⟩ := new3 HB3.out
  have c1a := cell_at q1 0 _ rfl
  have c1b := cell_at q1 1 _ rfl
  have c2a := cell_at q2 0 _ rfl
  have c2b := cell_at q2 1 _ rfl
  have c3a := cell_at q3 0 _ rfl
  have c3b := cell_at q3 1 _ rfl
  clear q1 q2 q3
  clear hk3
  go_wp2_with fail
  refine (HC _).out.mono ?_
  rintro e w4 ⟨rfl, hk4⟩
  clear c1a c1b c2a c2b c3a c3b
  have HB4 := Lib.hid (HB3.out.then hk4)
  obtain ⟨q1, q2, q3⟩ := new3 HB4.out
  have c1a := cell_at q1 0 _ rfl
  have c1b := cell_at q1 1 _ rfl
  have c2a := cell_at q2 0 _ rfl
  have c2b := cell_at q2 1 _ rfl
  have c3a := cell_at q3 0 _ rfl
  have c3b := cell_at q3 1 _ rfl
  clear q1 q2 q3
  clear hk4
  have HK := Lib.hid ((((Kept.alloc Nob w _).then (Kept.alloc Nob _ _)).then (Kept.alloc Nob _ _)).then HB4.out)
  by_cases d0 : n = 0
  case neg =>
    have hd0 : (n == 0) = false := beq_eq_false_iff_ne.2 d0
    go_wp2_with fail
    go_ret
    exact ⟨ret_bool (by rw [← HR.out]; simp [d0]), HK.out⟩
  case pos =>
    subst d0
    by_cases d1 : min x1 x2 ≤ x3
    case neg =>
      have HR' : Hid (r = false) := Lib.hid (by rw [← HR.out]; simp only [decide_true, Bool.false_and, Bool.and_false, decide_eq_false d1])
      clear HR
      go_wp2_with fail
      all_goals go_ret
      all_goals exact ⟨by rw [HR'.out]; rfl, HK.out⟩
    case pos =>
      by_cases d2 : x3 ≤ max x1 x2
      case neg =>
        have HR' : Hid (r = false) := Lib.hid (by rw [← HR.out]; simp only [decide_true, Bool.false_and, Bool.and_false, decide_eq_true d1, decide_eq_false d2])
        clear HR
        go_wp2_with fail
        all_goals go_ret
        all_goals exact ⟨by rw [HR'.out]; rfl, HK.out⟩
      case pos =>
        by_cases d3 : min y1 y2 ≤ y3
        case neg =>
          have HR' : Hid (r = false) := Lib.hid (by rw [← HR.out]; simp only [decide_true, Bool.true_and, Bool.false_and, Bool.and_false, decide_eq_true d1, decide_eq_true d2, decide_eq_false d3])
          clear HR
          go_wp2_with fail
          all_goals go_ret
          all_goals exact ⟨by rw [HR'.out]; rfl, HK.out⟩
        case pos =>
          have HR' : Hid (r = decide (y3 ≤ max y1 y2)) := Lib.hid (by rw [← HR.out]; simp only [decide_true, Bool.true_and, decide_eq_true d1, decide_eq_true d2, decide_eq_true d3])
          clear HR
          go_wp2_with fail
          all_goals go_ret
          all_goals exact ⟨ret_bool (by rw [HR'.out, decide_eq_decide]; omega), HK.out⟩
set_option maxRecDepth 100000 in
set_option maxHeartbeats 4000000 in
theorem ref_Proper (w : World) (x1 y1 x2 y2 x3 y3 x4 y4 : Int) (h1 : ok (x1, y1) = true) (h2 : ok (x2, y2) = true) (h3 : ok (x3, y3) = true) (h4 : ok (x4, y4) = true) :
    Calls Tryz.prog 118 #[.agg #[.int .i64 x1, .int .i64 y1], .agg #[.int .i64 x2, .int .i64 y2], .agg #[.int .i64 x3, .int .i64 y3], .agg #[.int .i64 x4, .int .i64 y4]] w fun e w' => e = .returned (.bool (proper (x1, y1) (x2, y2) (x3, y3) (x4, y4))) ∧ Kept Nob w w' := by
  have HO1 := fun (wx : World) => Lib.hid (ref_Orient wx x1 y1 x2 y2 x3 y3 h1 h2 h3)
  have HO2 := fun (wx : World) => Lib.hid (ref_Orient wx x1 y1 x2 y2 x4 y4 h1 h2 h4)
  have HO3 := fun (wx : World) => Lib.hid (ref_Orient wx x3 y3 x4 y4 x1 y1 h3 h4 h1)
  have HO4 := fun (wx : World) => Lib.hid (ref_Orient wx x3 y3 x4 y4 x2 y2 h3 h4 h2)
  obtain ⟨r, hr⟩ : ∃ r, proper (x1, y1) (x2, y2) (x3, y3) (x4, y4) = r := ⟨_, rfl⟩
  rw [hr]
  unfold proper at hr
  have hw1 := sg_mul (cr (x1, y1) (x2, y2) (x3, y3)) (cr (x1, y1) (x2, y2) (x4, y4))
  have hw2 := sg_mul (cr (x3, y3) (x4, y4) (x1, y1)) (cr (x3, y3) (x4, y4) (x2, y2))
  have hv1 := sg_mul' (cr (x1, y1) (x2, y2) (x3, y3)) (cr (x1, y1) (x2, y2) (x4, y4))
  have hv2 := sg_mul' (cr (x3, y3) (x4, y4) (x1, y1)) (cr (x3, y3) (x4, y4) (x2, y2))
  generalize sg (cr (x1, y1) (x2, y2) (x3, y3)) = s1 at *
  generalize sg (cr (x1, y1) (x2, y2) (x4, y4)) = s2 at *
  generalize sg (cr (x3, y3) (x4, y4) (x1, y1)) = s3 at *
  generalize sg (cr (x3, y3) (x4, y4) (x2, y2)) = s4 at *
  have HR := Lib.hid hr
  clear h1 h2 h3 h4 hr
  go_enter Tryz.func118, Tryz.ntmps118
  by_cases d1 : s1 * s2 < 0
  · have hd1 : decide (s1 * s2 < 0) = true := decide_eq_true d1
    go_wp2_with fail
    refine wp_region_held_drew (S := (fun w' => Kept Nob ((((w.alloc (.cells #[.int .i64 x1, .int .i64 y1] 42)).alloc (.cells #[.int .i64 x2, .int .i64 y2] 42)).alloc (.cells #[.int .i64 x3, .int .i64 y3] 42)).alloc (.cells #[.int .i64 x4, .int .i64 y4] 42)) w')) (by kernel_rfl) ?_ (fun hHeld => ?_)
    · first | assumption | exact Kept.drew _ _
    refine take_to (i := 0) (oi := _) (v := ?_) (some 9) rfl (by kernel_rfl) (by kernel_rfl) (by kernel_rfl) (by kernel_rfl) (fun _ _ _ h => h) (Or.inl ⟨by kernel_rfl, ?_⟩) (by assumption) ?_
    case refine_2 => (intro w hSw; (try dsimp only at hSw); (obtain ⟨q1, q2, q3, q4⟩ := new4 hSw; have c1a := cell_at q1 0 _ rfl; have c1b := cell_at q1 1 _ rfl; have c2a := cell_at q2 0 _ rfl; have c2b := cell_at q2 1 _ rfl; have c3a := cell_at q3 0 _ rfl; have c3b := cell_at q3 1 _ rfl; have c4a := cell_at q4 0 _ rfl; have c4b := cell_at q4 1 _ rfl); go_simp; try with_reducible rfl)
    try simp only [Act.put, List.setIfInBounds_toArray, List.set_cons_zero, List.set_cons_succ]
    refine take_to (i := 1) (oi := _) (v := ?_) (some 10) rfl (by kernel_rfl) (by kernel_rfl) (by kernel_rfl) (by kernel_rfl) (fun _ _ _ h => h) (Or.inl ⟨by kernel_rfl, ?_⟩) (by assumption) ?_
    case refine_2 => (intro w hSw; (try dsimp only at hSw); (obtain ⟨q1, q2, q3, q4⟩ := new4 hSw; have c1a := cell_at q1 0 _ rfl; have c1b := cell_at q1 1 _ rfl; have c2a := cell_at q2 0 _ rfl; have c2b := cell_at q2 1 _ rfl; have c3a := cell_at q3 0 _ rfl; have c3b := cell_at q3 1 _ rfl; have c4a := cell_at q4 0 _ rfl; have c4b := cell_at q4 1 _ rfl); go_simp; try with_reducible rfl)
    try simp only [Act.put, List.setIfInBounds_toArray, List.set_cons_zero, List.set_cons_succ]
    refine take_to (i := 2) (oi := _) (v := ?_) (some 11) rfl (by kernel_rfl) (by kernel_rfl) (by kernel_rfl) (by kernel_rfl) (fun _ _ _ h => h) (Or.inl ⟨by kernel_rfl, ?_⟩) (by assumption) ?_
    case refine_2 => (intro w hSw; (try dsimp only at hSw); (obtain ⟨q1, q2, q3, q4⟩ := new4 hSw; have c1a := cell_at q1 0 _ rfl; have c1b := cell_at q1 1 _ rfl; have c2a := cell_at q2 0 _ rfl; have c2b := cell_at q2 1 _ rfl; have c3a := cell_at q3 0 _ rfl; have c3b := cell_at q3 1 _ rfl; have c4a := cell_at q4 0 _ rfl; have c4b := cell_at q4 1 _ rfl); go_simp; try with_reducible rfl)
    try simp only [Act.put, List.setIfInBounds_toArray, List.set_cons_zero, List.set_cons_succ]
    refine take_to (i := 4) (oi := _) (v := ?_) (some 13) rfl (by kernel_rfl) (by kernel_rfl) (by kernel_rfl) (by kernel_rfl) (fun _ _ _ h => h) (Or.inl ⟨by kernel_rfl, ?_⟩) (by assumption) ?_
    case refine_2 => (intro w hSw; (try dsimp only at hSw); (obtain ⟨q1, q2, q3, q4⟩ := new4 hSw; have c1a := cell_at q1 0 _ rfl; have c1b := cell_at q1 1 _ rfl; have c2a := cell_at q2 0 _ rfl; have c2b := cell_at q2 1 _ rfl; have c3a := cell_at q3 0 _ rfl; have c3b := cell_at q3 1 _ rfl; have c4a := cell_at q4 0 _ rfl; have c4b := cell_at q4 1 _ rfl); go_simp; try with_reducible rfl)
    try simp only [Act.put, List.setIfInBounds_toArray, List.set_cons_zero, List.set_cons_succ]
    refine take_to (i := 5) (oi := _) (v := ?_) (some 14) rfl (by kernel_rfl) (by kernel_rfl) (by kernel_rfl) (by kernel_rfl) (fun _ _ _ h => h) (Or.inl ⟨by kernel_rfl, ?_⟩) (by assumption) ?_
    case refine_2 => (intro w hSw; (try dsimp only at hSw); (obtain ⟨q1, q2, q3, q4⟩ := new4 hSw; have c1a := cell_at q1 0 _ rfl; have c1b := cell_at q1 1 _ rfl; have c2a := cell_at q2 0 _ rfl; have c2b := cell_at q2 1 _ rfl; have c3a := cell_at q3 0 _ rfl; have c3b := cell_at q3 1 _ rfl; have c4a := cell_at q4 0 _ rfl; have c4b := cell_at q4 1 _ rfl); go_simp; try with_reducible rfl)
    try simp only [Act.put, List.setIfInBounds_toArray, List.set_cons_zero, List.set_cons_succ]
    refine take_to (i := 6) (oi := _) (v := ?_) (some 15) rfl (by kernel_rfl) (by kernel_rfl) (by kernel_rfl) (by kernel_rfl) (fun _ _ _ h => h) (Or.inl ⟨by kernel_rfl, ?_⟩) (by assumption) ?_
    case refine_2 => (intro w hSw; (try dsimp only at hSw); (obtain ⟨q1, q2, q3, q4⟩ := new4 hSw; have c1a := cell_at q1 0 _ rfl; have c1b := cell_at q1 1 _ rfl; have c2a := cell_at q2 0 _ rfl; have c2b := cell_at q2 1 _ rfl; have c3a := cell_at q3 0 _ rfl; have c3b := cell_at q3 1 _ rfl; have c4a := cell_at q4 0 _ rfl; have c4b := cell_at q4 1 _ rfl); go_simp; try with_reducible rfl)
    try simp only [Act.put, List.setIfInBounds_toArray, List.set_cons_zero, List.set_cons_succ]
    refine wpAnyH_ready (rs := [3]) (by kernel_rfl) (by simp) ?_
    refine AllReadyH.cons (o := _) rfl (fun K hK => ?_) AllReadyH.nil
    go_simp
    go_at_call 138
    refine (HO1 _).out.mono ?_
    rintro e w2 ⟨rfl, hk2⟩
    try go_wp2_with fail
    refine hK.out _ _ ((Kept.drew Nob _).then hk2) (fun hHeld => ?_)
    clear hK K
    try simp only [Act.put, List.setIfInBounds_toArray, List.set_cons_zero, List.set_cons_succ]
    refine wpAnyH_ready (rs := [7]) (by kernel_rfl) (by simp) ?_
    refine AllReadyH.cons (o := _) rfl (fun K hK => ?_) AllReadyH.nil
    go_simp
    go_at_call 138
    refine (HO2 _).out.mono ?_
    rintro e w3 ⟨rfl, hk3⟩
    try go_wp2_with fail
    refine hK.out _ _ (hHeld.then hk3) (fun hHeld => ?_)
    clear hK K
    try simp only [Act.put, List.setIfInBounds_toArray, List.set_cons_zero, List.set_cons_succ]
    refine take_to (i := 8) (oi := _) (v := ?_) (some 17) rfl (by kernel_rfl) (by kernel_rfl) (by kernel_rfl) (by kernel_rfl) (fun _ _ _ h => h) (Or.inl ⟨by kernel_rfl, ?_⟩) (by assumption) ?_
    case refine_2 => (intro w hSw; (try dsimp only at hSw); go_simp; try with_reducible rfl)
    try simp only [Act.put, List.setIfInBounds_toArray, List.set_cons_zero, List.set_cons_succ]
    refine take_to (i := 9) (oi := _) (v := ?_) (some 18) rfl (by kernel_rfl) (by kernel_rfl) (by kernel_rfl) (by kernel_rfl) (fun _ _ _ h => h) (Or.inl ⟨by kernel_rfl, ?_⟩) (by assumption) ?_
    case refine_2 => (intro w hSw; (try dsimp only at hSw); go_simp; try with_reducible rfl)
    try simp only [Act.put, List.setIfInBounds_toArray, List.set_cons_zero, List.set_cons_succ]
    refine take_to (i := 10) (oi := _) (v := ?_) (some 19) rfl (by kernel_rfl) (by kernel_rfl) (by kernel_rfl) (by kernel_rfl) (fun _ _ _ h => h) (Or.inl ⟨by kernel_rfl, ?_⟩) (by assumption) ?_
    case refine_2 => (intro w hSw; (try dsimp only at hSw); go_simp; try with_reducible rfl)
    try simp only [Act.put, List.setIfInBounds_toArray, List.set_cons_zero, List.set_cons_succ]
    refine take_to (i := 11) (oi := _) (v := ?_) (some 20) rfl (by kernel_rfl) (by kernel_rfl) (by kernel_rfl) (by kernel_rfl) (fun _ _ _ h => h) (Or.inl ⟨by kernel_rfl, ?_⟩) (by assumption) ?_
    case refine_2 => (intro w hSw; (try dsimp only at hSw); (obtain ⟨q1, q2, q3, q4⟩ := new4 hSw; have c1a := cell_at q1 0 _ rfl; have c1b := cell_at q1 1 _ rfl; have c2a := cell_at q2 0 _ rfl; have c2b := cell_at q2 1 _ rfl; have c3a := cell_at q3 0 _ rfl; have c3b := cell_at q3 1 _ rfl; have c4a := cell_at q4 0 _ rfl; have c4b := cell_at q4 1 _ rfl); go_simp; try with_reducible rfl)
    try simp only [Act.put, List.setIfInBounds_toArray, List.set_cons_zero, List.set_cons_succ]
    refine take_to (i := 12) (oi := _) (v := ?_) (some 21) rfl (by kernel_rfl) (by kernel_rfl) (by kernel_rfl) (by kernel_rfl) (fun _ _ _ h => h) (Or.inl ⟨by kernel_rfl, ?_⟩) (by assumption) ?_
    case refine_2 => (intro w hSw; (try dsimp only at hSw); (obtain ⟨q1, q2, q3, q4⟩ := new4 hSw; have c1a := cell_at q1 0 _ rfl; have c1b := cell_at q1 1 _ rfl; have c2a := cell_at q2 0 _ rfl; have c2b := cell_at q2 1 _ rfl; have c3a := cell_at q3 0 _ rfl; have c3b := cell_at q3 1 _ rfl; have c4a := cell_at q4 0 _ rfl; have c4b := cell_at q4 1 _ rfl); go_simp; try with_reducible rfl)
    try simp only [Act.put, List.setIfInBounds_toArray, List.set_cons_zero, List.set_cons_succ]
    refine take_to (i := 13) (oi := _) (v := ?_) (some 22) rfl (by kernel_rfl) (by kernel_rfl) (by kernel_rfl) (by kernel_rfl) (fun _ _ _ h => h) (Or.inl ⟨by kernel_rfl, ?_⟩) (by assumption) ?_
    case refine_2 => (intro w hSw; (try dsimp only at hSw); (obtain ⟨q1, q2, q3, q4⟩ := new4 hSw; have c1a := cell_at q1 0 _ rfl; have c1b := cell_at q1 1 _ rfl; have c2a := cell_at q2 0 _ rfl; have c2b := cell_at q2 1 _ rfl; have c3a := cell_at q3 0 _ rfl; have c3b := cell_at q3 1 _ rfl; have c4a := cell_at q4 0 _ rfl; have c4b := cell_at q4 1 _ rfl); go_simp; try with_reducible rfl)
    try simp only [Act.put, List.setIfInBounds_toArray, List.set_cons_zero, List.set_cons_succ]
    refine take_to (i := 15) (oi := _) (v := ?_) (some 24) rfl (by kernel_rfl) (by kernel_rfl) (by kernel_rfl) (by kernel_rfl) (fun _ _ _ h => h) (Or.inl ⟨by kernel_rfl, ?_⟩) (by assumption) ?_
    case refine_2 => (intro w hSw; (try dsimp only at hSw); (obtain ⟨q1, q2, q3, q4⟩ := new4 hSw; have c1a := cell_at q1 0 _ rfl; have c1b := cell_at q1 1 _ rfl; have c2a := cell_at q2 0 _ rfl; have c2b := cell_at q2 1 _ rfl; have c3a := cell_at q3 0 _ rfl; have c3b := cell_at q3 1 _ rfl; have c4a := cell_at q4 0 _ rfl; have c4b := cell_at q4 1 _ rfl); go_simp; try with_reducible rfl)
    try simp only [Act.put, List.setIfInBounds_toArray, List.set_cons_zero, List.set_cons_succ]
    refine take_to (i := 16) (oi := _) (v := ?_) (some 25) rfl (by kernel_rfl) (by kernel_rfl) (by kernel_rfl) (by kernel_rfl) (fun _ _ _ h => h) (Or.inl ⟨by kernel_rfl, ?_⟩) (by assumption) ?_
    case refine_2 => (intro w hSw; (try dsimp only at hSw); (obtain ⟨q1, q2, q3, q4⟩ := new4 hSw; have c1a := cell_at q1 0 _ rfl; have c1b := cell_at q1 1 _ rfl; have c2a := cell_at q2 0 _ rfl; have c2b := cell_at q2 1 _ rfl; have c3a := cell_at q3 0 _ rfl; have c3b := cell_at q3 1 _ rfl; have c4a := cell_at q4 0 _ rfl; have c4b := cell_at q4 1 _ rfl); go_simp; try with_reducible rfl)
    try simp only [Act.put, List.setIfInBounds_toArray, List.set_cons_zero, List.set_cons_succ]
    refine take_to (i := 17) (oi := _) (v := ?_) (some 26) rfl (by kernel_rfl) (by kernel_rfl) (by kernel_rfl) (by kernel_rfl) (fun _ _ _ h => h) (Or.inl ⟨by kernel_rfl, ?_⟩) (by assumption) ?_
    case refine_2 => (intro w hSw; (try dsimp only at hSw); (obtain ⟨q1, q2, q3, q4⟩ := new4 hSw; have c1a := cell_at q1 0 _ rfl; have c1b := cell_at q1 1 _ rfl; have c2a := cell_at q2 0 _ rfl; have c2b := cell_at q2 1 _ rfl; have c3a := cell_at q3 0 _ rfl; have c3b := cell_at q3 1 _ rfl; have c4a := cell_at q4 0 _ rfl; have c4b := cell_at q4 1 _ rfl); go_simp; try with_reducible rfl)
    try simp only [Act.put, List.setIfInBounds_toArray, List.set_cons_zero, List.set_cons_succ]
    refine wpAnyH_ready (rs := [14]) (by kernel_rfl) (by simp) ?_
    refine AllReadyH.cons (o := _) rfl (fun K hK => ?_) AllReadyH.nil
    go_simp
    go_at_call 138
    refine (HO3 _).out.mono ?_
    rintro e w4 ⟨rfl, hk4⟩
    try go_wp2_with fail
    refine hK.out _ _ (hHeld.then hk4) (fun hHeld => ?_)
    clear hK K
    try simp only [Act.put, List.setIfInBounds_toArray, List.set_cons_zero, List.set_cons_succ]
    refine wpAnyH_ready (rs := [18]) (by kernel_rfl) (by simp) ?_
    refine AllReadyH.cons (o := _) rfl (fun K hK => ?_) AllReadyH.nil
    go_simp
    go_at_call 138
    refine (HO4 _).out.mono ?_
    rintro e w5 ⟨rfl, hk5⟩
    try go_wp2_with fail
    refine hK.out _ _ (hHeld.then hk5) (fun hHeld => ?_)
    clear hK K
    try simp only [Act.put, List.setIfInBounds_toArray, List.set_cons_zero, List.set_cons_succ]
    refine take_to (i := 19) (oi := _) (v := ?_) (some 28) rfl (by kernel_rfl) (by kernel_rfl) (by kernel_rfl) (by kernel_rfl) (fun _ _ _ h => h) (Or.inl ⟨by kernel_rfl, ?_⟩) (by assumption) ?_
    case refine_2 => (intro w hSw; (try dsimp only at hSw); go_simp; try with_reducible rfl)
    try simp only [Act.put, List.setIfInBounds_toArray, List.set_cons_zero, List.set_cons_succ]
    refine take_to (i := 20) (oi := _) (v := ?_) (some 29) rfl (by kernel_rfl) (by kernel_rfl) (by kernel_rfl) (by kernel_rfl) (fun _ _ _ h => h) (Or.inl ⟨by kernel_rfl, ?_⟩) (by assumption) ?_
    case refine_2 => (intro w hSw; (try dsimp only at hSw); go_simp; try with_reducible rfl)
    try simp only [Act.put, List.setIfInBounds_toArray, List.set_cons_zero, List.set_cons_succ]
    refine take_to (i := 21) (oi := _) (v := ?_) (some 30) rfl (by kernel_rfl) (by kernel_rfl) (by kernel_rfl) (by kernel_rfl) (fun _ _ _ h => h) (Or.inl ⟨by kernel_rfl, ?_⟩) (by assumption) ?_
    case refine_2 => (intro w hSw; (try dsimp only at hSw); go_simp; try with_reducible rfl)
    try simp only [Act.put, List.setIfInBounds_toArray, List.set_cons_zero, List.set_cons_succ]
    refine take_to (i := 22) (oi := _) (v := ?_) (some 8) rfl (by kernel_rfl) (by kernel_rfl) (by kernel_rfl) (by kernel_rfl) (fun _ _ _ h => h) (Or.inl ⟨by kernel_rfl, ?_⟩) (by assumption) ?_
    case refine_2 => (intro w hSw; (try dsimp only at hSw); go_simp; try with_reducible rfl)
    try simp only [Act.put, List.setIfInBounds_toArray, List.set_cons_zero, List.set_cons_succ]
    refine wpAnyH_done (by kernel_rfl) ?_ _
    have HK := Lib.hid ((((((Kept.alloc Nob w _).then (Kept.alloc Nob _ _)).then (Kept.alloc Nob _ _)).then (Kept.alloc Nob _ _))).then hHeld)
    go_wp2_with fail
    go_ret
    exact ⟨ret_bool (by rw [← HR.out, hd1]; rfl), HK.out⟩
  · have hd1 : decide (s1 * s2 < 0) = false := decide_eq_false d1
    go_wp2_with fail
    refine wp_region_held_drew (S := (fun w' => Kept Nob ((((w.alloc (.cells #[.int .i64 x1, .int .i64 y1] 42)).alloc (.cells #[.int .i64 x2, .int .i64 y2] 42)).alloc (.cells #[.int .i64 x3, .int .i64 y3] 42)).alloc (.cells #[.int .i64 x4, .int .i64 y4] 42)) w')) (by kernel_rfl) ?_ (fun hHeld => ?_)
    · first | assumption | exact Kept.drew _ _
    refine take_to (i := 0) (oi := _) (v := ?_) (some 9) rfl (by kernel_rfl) (by kernel_rfl) (by kernel_rfl) (by kernel_rfl) (fun _ _ _ h => h) (Or.inl ⟨by kernel_rfl, ?_⟩) (by assumption) ?_
    case refine_2 => (intro w hSw; (try dsimp only at hSw); (obtain ⟨q1, q2, q3, q4⟩ := new4 hSw; have c1a := cell_at q1 0 _ rfl; have c1b := cell_at q1 1 _ rfl; have c2a := cell_at q2 0 _ rfl; have c2b := cell_at q2 1 _ rfl; have c3a := cell_at q3 0 _ rfl; have c3b := cell_at q3 1 _ rfl; have c4a := cell_at q4 0 _ rfl; have c4b := cell_at q4 1 _ rfl); go_simp; try with_reducible rfl)
    try simp only [Act.put, List.setIfInBounds_toArray, List.set_cons_zero, List.set_cons_succ]
    refine take_to (i := 1) (oi := _) (v := ?_) (some 10) rfl (by kernel_rfl) (by kernel_rfl) (by kernel_rfl) (by kernel_rfl) (fun _ _ _ h => h) (Or.inl ⟨by kernel_rfl, ?_⟩) (by assumption) ?_
    case refine_2 => (intro w hSw; (try dsimp only at hSw); (obtain ⟨q1, q2, q3, q4⟩ := new4 hSw; have c1a := cell_at q1 0 _ rfl; have c1b := cell_at q1 1 _ rfl; have c2a := cell_at q2 0 _ rfl; have c2b := cell_at q2 1 _ rfl; have c3a := cell_at q3 0 _ rfl; have c3b := cell_at q3 1 _ rfl; have c4a := cell_at q4 0 _ rfl; have c4b := cell_at q4 1 _ rfl); go_simp; try with_reducible rfl)
    try simp only [Act.put, List.setIfInBounds_toArray, List.set_cons_zero, List.set_cons_succ]
    refine take_to (i := 2) (oi := _) (v := ?_) (some 11) rfl (by kernel_rfl) (by kernel_rfl) (by kernel_rfl) (by kernel_rfl) (fun _ _ _ h => h) (Or.inl ⟨by kernel_rfl, ?_⟩) (by assumption) ?_
    case refine_2 => (intro w hSw; (try dsimp only at hSw); (obtain ⟨q1, q2, q3, q4⟩ := new4 hSw; have c1a := cell_at q1 0 _ rfl; have c1b := cell_at q1 1 _ rfl; have c2a := cell_at q2 0 _ rfl; have c2b := cell_at q2 1 _ rfl; have c3a := cell_at q3 0 _ rfl; have c3b := cell_at q3 1 _ rfl; have c4a := cell_at q4 0 _ rfl; have c4b := cell_at q4 1 _ rfl); go_simp; try with_reducible rfl)
    try simp only [Act.put, List.setIfInBounds_toArray, List.set_cons_zero, List.set_cons_succ]
    refine take_to (i := 4) (oi := _) (v := ?_) (some 13) rfl (by kernel_rfl) (by kernel_rfl) (by kernel_rfl) (by kernel_rfl) (fun _ _ _ h => h) (Or.inl ⟨by kernel_rfl, ?_⟩) (by assumption) ?_
    case refine_2 => (intro w hSw; (try dsimp only at hSw); (obtain ⟨q1, q2, q3, q4⟩ := new4 hSw; have c1a := cell_at q1 0 _ rfl; have c1b := cell_at q1 1 _ rfl; have c2a := cell_at q2 0 _ rfl; have c2b := cell_at q2 1 _ rfl; have c3a := cell_at q3 0 _ rfl; have c3b := cell_at q3 1 _ rfl; have c4a := cell_at q4 0 _ rfl; have c4b := cell_at q4 1 _ rfl); go_simp; try with_reducible rfl)
    try simp only [Act.put, List.setIfInBounds_toArray, List.set_cons_zero, List.set_cons_succ]
    refine take_to (i := 5) (oi := _) (v := ?_) (some 14) rfl (by kernel_rfl) (by kernel_rfl) (by kernel_rfl) (by kernel_rfl) (fun _ _ _ h => h) (Or.inl ⟨by kernel_rfl, ?_⟩) (by assumption) ?_
    case refine_2 => (intro w hSw; (try dsimp only at hSw); (obtain ⟨q1, q2, q3, q4⟩ := new4 hSw; have c1a := cell_at q1 0 _ rfl; have c1b := cell_at q1 1 _ rfl; have c2a := cell_at q2 0 _ rfl; have c2b := cell_at q2 1 _ rfl; have c3a := cell_at q3 0 _ rfl; have c3b := cell_at q3 1 _ rfl; have c4a := cell_at q4 0 _ rfl; have c4b := cell_at q4 1 _ rfl); go_simp; try with_reducible rfl)
    try simp only [Act.put, List.setIfInBounds_toArray, List.set_cons_zero, List.set_cons_succ]
    refine take_to (i := 6) (oi := _) (v := ?_) (some 15) rfl (by kernel_rfl) (by kernel_rfl) (by kernel_rfl) (by kernel_rfl) (fun _ _ _ h => h) (Or.inl ⟨by kernel_rfl, ?_⟩) (by assumption) ?_
    case refine_2 => (intro w hSw; (try dsimp only at hSw); (obtain ⟨q1, q2, q3, q4⟩ := new4 hSw; have c1a := cell_at q1 0 _ rfl; have c1b := cell_at q1 1 _ rfl; have c2a := cell_at q2 0 _ rfl; have c2b := cell_at q2 1 _ rfl; have c3a := cell_at q3 0 _ rfl; have c3b := cell_at q3 1 _ rfl; have c4a := cell_at q4 0 _ rfl; have c4b := cell_at q4 1 _ rfl); go_simp; try with_reducible rfl)
    try simp only [Act.put, List.setIfInBounds_toArray, List.set_cons_zero, List.set_cons_succ]
    refine wpAnyH_ready (rs := [3]) (by kernel_rfl) (by simp) ?_
    refine AllReadyH.cons (o := _) rfl (fun K hK => ?_) AllReadyH.nil
    go_simp
    go_at_call 138
    refine (HO1 _).out.mono ?_
    rintro e w2 ⟨rfl, hk2⟩
    try go_wp2_with fail
    refine hK.out _ _ ((Kept.drew Nob _).then hk2) (fun hHeld => ?_)
    clear hK K
    try simp only [Act.put, List.setIfInBounds_toArray, List.set_cons_zero, List.set_cons_succ]
    refine wpAnyH_ready (rs := [7]) (by kernel_rfl) (by simp) ?_
    refine AllReadyH.cons (o := _) rfl (fun K hK => ?_) AllReadyH.nil
    go_simp
    go_at_call 138
    refine (HO2 _).out.mono ?_
    rintro e w3 ⟨rfl, hk3⟩
    try go_wp2_with fail
    refine hK.out _ _ (hHeld.then hk3) (fun hHeld => ?_)
    clear hK K
    try simp only [Act.put, List.setIfInBounds_toArray, List.set_cons_zero, List.set_cons_succ]
    refine take_to (i := 8) (oi := _) (v := ?_) (some 17) rfl (by kernel_rfl) (by kernel_rfl) (by kernel_rfl) (by kernel_rfl) (fun _ _ _ h => h) (Or.inl ⟨by kernel_rfl, ?_⟩) (by assumption) ?_
    case refine_2 => (intro w hSw; (try dsimp only at hSw); go_simp; try with_reducible rfl)
    try simp only [Act.put, List.setIfInBounds_toArray, List.set_cons_zero, List.set_cons_succ]
    refine take_to (i := 9) (oi := _) (v := ?_) (some 18) rfl (by kernel_rfl) (by kernel_rfl) (by kernel_rfl) (by kernel_rfl) (fun _ _ _ h => h) (Or.inl ⟨by kernel_rfl, ?_⟩) (by assumption) ?_
    case refine_2 => (intro w hSw; (try dsimp only at hSw); go_simp; try with_reducible rfl)
    try simp only [Act.put, List.setIfInBounds_toArray, List.set_cons_zero, List.set_cons_succ]
    refine take_to (i := 10) (oi := _) (v := ?_) (some 19) rfl (by kernel_rfl) (by kernel_rfl) (by kernel_rfl) (by kernel_rfl) (fun _ _ _ h => h) (Or.inl ⟨by kernel_rfl, ?_⟩) (by assumption) ?_
    case refine_2 => (intro w hSw; (try dsimp only at hSw); go_simp; try with_reducible rfl)
    try simp only [Act.put, List.setIfInBounds_toArray, List.set_cons_zero, List.set_cons_succ]
    refine take_to (i := 11) (oi := _) (v := undef) (some 20) rfl (by kernel_rfl) (by kernel_rfl) (by kernel_rfl) (by kernel_rfl) (fun _ _ _ h => h) (Or.inr ⟨by kernel_rfl, rfl⟩) (by assumption) ?_
    try simp only [Act.put, List.setIfInBounds_toArray, List.set_cons_zero, List.set_cons_succ]
    refine take_to (i := 12) (oi := _) (v := undef) (some 21) rfl (by kernel_rfl) (by kernel_rfl) (by kernel_rfl) (by kernel_rfl) (fun _ _ _ h => h) (Or.inr ⟨by kernel_rfl, rfl⟩) (by assumption) ?_
    try simp only [Act.put, List.setIfInBounds_toArray, List.set_cons_zero, List.set_cons_succ]
    refine take_to (i := 13) (oi := _) (v := undef) (some 22) rfl (by kernel_rfl) (by kernel_rfl) (by kernel_rfl) (by kernel_rfl) (fun _ _ _ h => h) (Or.inr ⟨by kernel_rfl, rfl⟩) (by assumption) ?_
    try simp only [Act.put, List.setIfInBounds_toArray, List.set_cons_zero, List.set_cons_succ]
    refine take_to (i := 14) (oi := _) (v := undef) (some 23) rfl (by kernel_rfl) (by kernel_rfl) (by kernel_rfl) (by kernel_rfl) (fun _ _ _ h => h) (Or.inr ⟨by kernel_rfl, rfl⟩) (by assumption) ?_
    try simp only [Act.put, List.setIfInBounds_toArray, List.set_cons_zero, List.set_cons_succ]
    refine take_to (i := 15) (oi := _) (v := undef) (some 24) rfl (by kernel_rfl) (by kernel_rfl) (by kernel_rfl) (by kernel_rfl) (fun _ _ _ h => h) (Or.inr ⟨by kernel_rfl, rfl⟩) (by assumption) ?_
    try simp only [Act.put, List.setIfInBounds_toArray, List.set_cons_zero, List.set_cons_succ]
    refine take_to (i := 16) (oi := _) (v := undef) (some 25) rfl (by kernel_rfl) (by kernel_rfl) (by kernel_rfl) (by kernel_rfl) (fun _ _ _ h => h) (Or.inr ⟨by kernel_rfl, rfl⟩) (by assumption) ?_
    try simp only [Act.put, List.setIfInBounds_toArray, List.set_cons_zero, List.set_cons_succ]
    refine take_to (i := 17) (oi := _) (v := undef) (some 26) rfl (by kernel_rfl) (by kernel_rfl) (by kernel_rfl) (by kernel_rfl) (fun _ _ _ h => h) (Or.inr ⟨by kernel_rfl, rfl⟩) (by assumption) ?_
    try simp only [Act.put, List.setIfInBounds_toArray, List.set_cons_zero, List.set_cons_succ]
    refine take_to (i := 18) (oi := _) (v := undef) (some 27) rfl (by kernel_rfl) (by kernel_rfl) (by kernel_rfl) (by kernel_rfl) (fun _ _ _ h => h) (Or.inr ⟨by kernel_rfl, rfl⟩) (by assumption) ?_
    try simp only [Act.put, List.setIfInBounds_toArray, List.set_cons_zero, List.set_cons_succ]
    refine take_to (i := 19) (oi := _) (v := undef) (some 28) rfl (by kernel_rfl) (by kernel_rfl) (by kernel_rfl) (by kernel_rfl) (fun _ _ _ h => h) (Or.inr ⟨by kernel_rfl, rfl⟩) (by assumption) ?_
    try simp only [Act.put, List.setIfInBounds_toArray, List.set_cons_zero, List.set_cons_succ]
    refine take_to (i := 20) (oi := _) (v := undef) (some 29) rfl (by kernel_rfl) (by kernel_rfl) (by kernel_rfl) (by kernel_rfl) (fun _ _ _ h => h) (Or.inr ⟨by kernel_rfl, rfl⟩) (by assumption) ?_
    try simp only [Act.put, List.setIfInBounds_toArray, List.set_cons_zero, List.set_cons_succ]
    refine take_to (i := 21) (oi := _) (v := ?_) (some 30) rfl (by kernel_rfl) (by kernel_rfl) (by kernel_rfl) (by kernel_rfl) (fun _ _ _ h => h) (Or.inl ⟨by kernel_rfl, ?_⟩) (by assumption) ?_
    case refine_2 => (intro w hSw; (try dsimp only at hSw); go_simp; try with_reducible rfl)
    try simp only [Act.put, List.setIfInBounds_toArray, List.set_cons_zero, List.set_cons_succ]
    refine take_to (i := 22) (oi := _) (v := ?_) (some 8) rfl (by kernel_rfl) (by kernel_rfl) (by kernel_rfl) (by kernel_rfl) (fun _ _ _ h => h) (Or.inl ⟨by kernel_rfl, ?_⟩) (by assumption) ?_
    case refine_2 => (intro w hSw; (try dsimp only at hSw); go_simp; try with_reducible rfl)
    try simp only [Act.put, List.setIfInBounds_toArray, List.set_cons_zero, List.set_cons_succ]
    refine wpAnyH_done (by kernel_rfl) ?_ _
    have HK := Lib.hid ((((((Kept.alloc Nob w _).then (Kept.alloc Nob _ _)).then (Kept.alloc Nob _ _)).then (Kept.alloc Nob _ _))).then hHeld)
    go_wp2_with fail
    go_ret
    exact ⟨ret_bool (by rw [← HR.out, hd1]; rfl), HK.out⟩
set_option maxRecDepth 100000 in
set_option maxHeartbeats 4000000 in
theorem ref_Meet (w : World) (x1 y1 x2 y2 x3 y3 x4 y4 : Int) (h1 : ok (x1, y1) = true) (h2 : ok (x2, y2) = true) (h3 : ok (x3, y3) = true) (h4 : ok (x4, y4) = true) :
    Calls Tryz.prog 95 #[.agg #[.int .i64 x1, .int .i64 y1], .agg #[.int .i64 x2, .int .i64 y2], .agg #[.int .i64 x3, .int .i64 y3], .agg #[.int .i64 x4, .int .i64 y4]] w fun e w' => e = .returned (.bool (meet (x1, y1) (x2, y2) (x3, y3) (x4, y4))) ∧ Kept Nob w w' := by
  have HM1 := fun wx : World => Lib.hid (ref_Point wx x1 y1 true h1)
  have HM2 := fun wx : World => Lib.hid (ref_Point wx x2 y2 true h2)
  have HM3 := fun wx : World => Lib.hid (ref_Point wx x3 y3 true h3)
  have HM4 := fun wx : World => Lib.hid (ref_Point wx x4 y4 true h4)
  have HP := fun (wx : World) => Lib.hid (ref_Proper wx x1 y1 x2 y2 x3 y3 x4 y4 h1 h2 h3 h4)
  have HO1 := fun (wx : World) => Lib.hid (ref_On wx x1 y1 x2 y2 x3 y3 h1 h2 h3)
  have HO2 := fun (wx : World) => Lib.hid (ref_On wx x1 y1 x2 y2 x4 y4 h1 h2 h4)
  have HO3 := fun (wx : World) => Lib.hid (ref_On wx x3 y3 x4 y4 x1 y1 h3 h4 h1)
  have HO4 := fun (wx : World) => Lib.hid (ref_On wx x3 y3 x4 y4 x2 y2 h3 h4 h2)
  obtain ⟨r, hr⟩ : ∃ r, meet (x1, y1) (x2, y2) (x3, y3) (x4, y4) = r := ⟨_, rfl⟩
  rw [hr]
  unfold meet at hr
  generalize proper (x1, y1) (x2, y2) (x3, y3) (x4, y4) = p at *
  generalize on (x1, y1) (x2, y2) (x3, y3) = o1 at *
  generalize on (x1, y1) (x2, y2) (x4, y4) = o2 at *
  generalize on (x3, y3) (x4, y4) (x1, y1) = o3 at *
  generalize on (x3, y3) (x4, y4) (x2, y2) = o4 at *
  have HR := Lib.hid hr
  clear h1 h2 h3 h4 hr
  go_enter Tryz.func95, Tryz.ntmps95
  go_wp2_with fail
  refine (HM1 _).out.mono ?_
  rintro e w1 ⟨rfl, hk1⟩
  have HB1 := Lib.hid hk1
  obtain ⟨q1, q2, q3, q4⟩ := new4 HB1.out
  have c1a := cell_at q1 0 _ rfl
  have c1b := cell_at q1 1 _ rfl
  have c2a := cell_at q2 0 _ rfl
  have c2b := cell_at q2 1 _ rfl
  have c3a := cell_at q3 0 _ rfl
  have c3b := cell_at q3 1 _ rfl
  have c4a := cell_at q4 0 _ rfl
  have c4b := cell_at q4 1 _ rfl
  clear q1 q2 q3 q4
  clear hk1
  go_wp2_with fail
  refine (HM2 _).out.mono ?_
  rintro e w2 ⟨rfl, hk2⟩
  clear c1a c1b c2a c2b c3a c3b c4a c4b
  have HB2 := Lib.hid (HB1.out.then hk2)
  obtain ⟨q1, q2, q3, q4⟩ := new4 HB2.out
  have c1a := cell_at q1 0 _ rfl
  have c1b := cell_at q1 1 _ rfl
  have c2a := cell_at q2 0 _ rfl
  have c2b := cell_at q2 1 _ rfl
  have c3a := cell_at q3 0 _ rfl
  have c3b := cell_at q3 1 _ rfl
  have c4a := cell_at q4 0 _ rfl
  have c4b := cell_at q4 1 _ rfl
  clear q1 q2 q3 q4
  clear hk2
  go_wp2_with fail
  refine (HM3 _).out.mono ?_
  rintro e w3 ⟨rfl, hk3⟩
  clear c1a c1b c2a c2b c3a c3b c4a c4b
  have HB3 := Lib.hid (HB2.out.then hk3)
  obtain ⟨q1, q2, q3, q4⟩ := new4 HB3.out
  have c1a := cell_at q1 0 _ rfl
  have c1b := cell_at q1 1 _ rfl
  have c2a := cell_at q2 0 _ rfl
  have c2b := cell_at q2 1 _ rfl
  have c3a := cell_at q3 0 _ rfl
  have c3b := cell_at q3 1 _ rfl
  have c4a := cell_at q4 0 _ rfl
  have c4b := cell_at q4 1 _ rfl
  clear q1 q2 q3 q4
  clear hk3
  go_wp2_with fail
  refine (HM4 _).out.mono ?_
  rintro e w4 ⟨rfl, hk4⟩
  clear c1a c1b c2a c2b c3a c3b c4a c4b
  have HB4 := Lib.hid (HB3.out.then hk4)
  obtain ⟨q1, q2, q3, q4⟩ := new4 HB4.out
  have c1a := cell_at q1 0 _ rfl
  have c1b := cell_at q1 1 _ rfl
  have c2a := cell_at q2 0 _ rfl
  have c2b := cell_at q2 1 _ rfl
  have c3a := cell_at q3 0 _ rfl
  have c3b := cell_at q3 1 _ rfl
  have c4a := cell_at q4 0 _ rfl
  have c4b := cell_at q4 1 _ rfl
  clear q1 q2 q3 q4
  clear hk4
  go_wp2_with fail
  refine (HP _).out.mono ?_
  rintro e w5 ⟨rfl, hk5⟩
  clear c1a c1b c2a c2b c3a c3b c4a c4b
  have HB5 := Lib.hid (HB4.out.then hk5)
  obtain ⟨q1, q2, q3, q4⟩ := new4 HB5.out
  have c1a := cell_at q1 0 _ rfl
  have c1b := cell_at q1 1 _ rfl
  have c2a := cell_at q2 0 _ rfl
  have c2b := cell_at q2 1 _ rfl
  have c3a := cell_at q3 0 _ rfl
  have c3b := cell_at q3 1 _ rfl
  have c4a := cell_at q4 0 _ rfl
  have c4b := cell_at q4 1 _ rfl
  clear q1 q2 q3 q4
  clear hk5
  cases p with
  | true =>
    have HK := Lib.hid (((((Kept.alloc Nob w _).then (Kept.alloc Nob _ _)).then (Kept.alloc Nob _ _)).then (Kept.alloc Nob _ _)).then HB5.out)
    go_wp2_with fail
    go_ret
    exact ⟨ret_bool (by rw [← HR.out]; simp), HK.out⟩
  | false =>
    go_wp2_with fail
    refine (HO1 _).out.mono ?_
    rintro e w6 ⟨rfl, hk6⟩
    clear c1a c1b c2a c2b c3a c3b c4a c4b
    have HB6 := Lib.hid (HB5.out.then hk6)
    obtain ⟨q1, q2, q3, q4⟩ := new4 HB6.out
    have c1a := cell_at q1 0 _ rfl
    have c1b := cell_at q1 1 _ rfl
    have c2a := cell_at q2 0 _ rfl
    have c2b := cell_at q2 1 _ rfl
    have c3a := cell_at q3 0 _ rfl
    have c3b := cell_at q3 1 _ rfl
    have c4a := cell_at q4 0 _ rfl
    have c4b := cell_at q4 1 _ rfl
    clear q1 q2 q3 q4
    clear hk6
    cases o1 with
    | true =>
      have HK := Lib.hid (((((Kept.alloc Nob w _).then (Kept.alloc Nob _ _)).then (Kept.alloc Nob _ _)).then (Kept.alloc Nob _ _)).then HB6.out)
      go_wp2_with fail
      go_ret
      exact ⟨ret_bool (by rw [← HR.out]; simp), HK.out⟩
    | false =>
      go_wp2_with fail
      refine (HO2 _).out.mono ?_
      rintro e w7 ⟨rfl, hk7⟩
      clear c1a c1b c2a c2b c3a c3b c4a c4b
      have HB7 := Lib.hid (HB6.out.then hk7)
      obtain ⟨q1, q2, q3, q4⟩ := new4 HB7.out
      have c1a := cell_at q1 0 _ rfl
      have c1b := cell_at q1 1 _ rfl
      have c2a := cell_at q2 0 _ rfl
      have c2b := cell_at q2 1 _ rfl
      have c3a := cell_at q3 0 _ rfl
      have c3b := cell_at q3 1 _ rfl
      have c4a := cell_at q4 0 _ rfl
      have c4b := cell_at q4 1 _ rfl
      clear q1 q2 q3 q4
      clear hk7
      cases o2 with
      | true =>
        have HK := Lib.hid (((((Kept.alloc Nob w _).then (Kept.alloc Nob _ _)).then (Kept.alloc Nob _ _)).then (Kept.alloc Nob _ _)).then HB7.out)
        go_wp2_with fail
        go_ret
        exact ⟨ret_bool (by rw [← HR.out]; simp), HK.out⟩
      | false =>
        go_wp2_with fail
        refine (HO3 _).out.mono ?_
        rintro e w8 ⟨rfl, hk8⟩
        clear c1a c1b c2a c2b c3a c3b c4a c4b
        have HB8 := Lib.hid (HB7.out.then hk8)
        obtain ⟨q1, q2, q3, q4⟩ := new4 HB8.out
        have c1a := cell_at q1 0 _ rfl
        have c1b := cell_at q1 1 _ rfl
        have c2a := cell_at q2 0 _ rfl
        have c2b := cell_at q2 1 _ rfl
        have c3a := cell_at q3 0 _ rfl
        have c3b := cell_at q3 1 _ rfl
        have c4a := cell_at q4 0 _ rfl
        have c4b := cell_at q4 1 _ rfl
        clear q1 q2 q3 q4
        clear hk8
        cases o3 with
        | true =>
          have HK := Lib.hid (((((Kept.alloc Nob w _).then (Kept.alloc Nob _ _)).then (Kept.alloc Nob _ _)).then (Kept.alloc Nob _ _)).then HB8.out)
          go_wp2_with fail
          go_ret
          exact ⟨ret_bool (by rw [← HR.out]; simp), HK.out⟩
        | false =>
          go_wp2_with fail
          refine (HO4 _).out.mono ?_
          rintro e w9 ⟨rfl, hk9⟩
          clear c1a c1b c2a c2b c3a c3b c4a c4b
          have HB9 := Lib.hid (HB8.out.then hk9)
          obtain ⟨q1, q2, q3, q4⟩ := new4 HB9.out
          have c1a := cell_at q1 0 _ rfl
          have c1b := cell_at q1 1 _ rfl
          have c2a := cell_at q2 0 _ rfl
          have c2b := cell_at q2 1 _ rfl
          have c3a := cell_at q3 0 _ rfl
          have c3b := cell_at q3 1 _ rfl
          have c4a := cell_at q4 0 _ rfl
          have c4b := cell_at q4 1 _ rfl
          clear q1 q2 q3 q4
          clear hk9
          have HK := Lib.hid (((((Kept.alloc Nob w _).then (Kept.alloc Nob _ _)).then (Kept.alloc Nob _ _)).then (Kept.alloc Nob _ _)).then HB9.out)
          go_wp2_with fail
          go_ret
          exact ⟨ret_bool (by rw [← HR.out]; simp), HK.out⟩
set_option maxRecDepth 100000 in
set_option maxHeartbeats 4000000 in
theorem ref_over (w : World) (x1 y1 x2 y2 x3 y3 : Int) (h1 : ok (x1, y1) = true) (h2 : ok (x2, y2) = true) (h3 : ok (x3, y3) = true) :
    Calls Tryz.prog 94 #[.agg #[.int .i64 x1, .int .i64 y1], .agg #[.int .i64 x2, .int .i64 y2], .agg #[.int .i64 x3, .int .i64 y3]] w fun e w' => e = .returned (.bool (over (x1, y1) (x2, y2) (x3, y3))) ∧ Kept Nob w w' := by
  have HC := fun (wx : World) => Lib.hid (ref_Cross wx x2 y2 x1 y1 x3 y3 h2 h1 h3)
  have HD := fun (wx : World) => Lib.hid (ref_dot wx x2 y2 x1 y1 x3 y3 h2 h1 h3)
  obtain ⟨r, hr⟩ : ∃ r, over (x1, y1) (x2, y2) (x3, y3) = r := ⟨_, rfl⟩
  rw [hr]
  unfold over at hr
  generalize cr (x2, y2) (x1, y1) (x3, y3) = n at *
  generalize dt (x2, y2) (x1, y1) (x3, y3) = m at *
  simp only [Prod.mk.injEq, ne_eq] at hr
  have HR := Lib.hid hr
  clear h1 h2 h3 hr
  go_enter Tryz.func94, Tryz.ntmps94
  by_cases e1 : x1 = x2
  case neg =>
    by_cases e3 : x3 = x2
    case neg =>
      go_wp2_with fail
      refine (HC _).out.mono ?_
      rintro e w1 ⟨rfl, hk1⟩
      have HB1 := Lib.hid hk1
      obtain ⟨q1, q2, q3⟩ := new3 HB1.out
      have c1a := cell_at q1 0 _ rfl
      have c1b := cell_at q1 1 _ rfl
      have c2a := cell_at q2 0 _ rfl
      have c2b := cell_at q2 1 _ rfl
      have c3a := cell_at q3 0 _ rfl
      have c3b := cell_at q3 1 _ rfl
      clear q1 q2 q3
      clear hk1
      have HK1 := Lib.hid ((((Kept.alloc Nob w _).then (Kept.alloc Nob _ _)).then (Kept.alloc Nob _ _)).then HB1.out)
      by_cases d0 : n = 0
      case neg =>
        have hd0 : (n == 0) = false := beq_eq_false_iff_ne.2 d0
        have HR' : Hid (r = false) := Lib.hid (by rw [← HR.out]; simp [d0])
        clear HR
        go_wp2_with fail
        go_ret
        exact ⟨by rw [HR'.out]; rfl, HK1.out⟩
      case pos =>
        subst d0
        have HR' : Hid (r = decide (0 < m)) := Lib.hid (by rw [← HR.out]; simp [e1, e3])
        clear HR
        go_wp2_with fail
        refine (HD _).out.mono ?_
        rintro e w2 ⟨rfl, hk2⟩
        clear c1a c1b c2a c2b c3a c3b
        have HB2 := Lib.hid (HB1.out.then hk2)
        obtain ⟨q1, q2, q3⟩ := new3 HB2.out
        have c1a := cell_at q1 0 _ rfl
        have c1b := cell_at q1 1 _ rfl
        have c2a := cell_at q2 0 _ rfl
        have c2b := cell_at q2 1 _ rfl
        have c3a := cell_at q3 0 _ rfl
        have c3b := cell_at q3 1 _ rfl
        clear q1 q2 q3
        clear hk2
        have HK2 := Lib.hid ((((Kept.alloc Nob w _).then (Kept.alloc Nob _ _)).then (Kept.alloc Nob _ _)).then HB2.out)
        go_wp2_with fail
        go_ret
        exact ⟨ret_bool HR'.out.symm, HK2.out⟩
    case pos =>
      obtain rfl := e3.symm
      by_cases f3 : y3 = y2
      case neg =>
        go_wp2_with fail
        refine (HC _).out.mono ?_
        rintro e w1 ⟨rfl, hk1⟩
        have HB1 := Lib.hid hk1
        obtain ⟨q1, q2, q3⟩ := new3 HB1.out
        have c1a := cell_at q1 0 _ rfl
        have c1b := cell_at q1 1 _ rfl
        have c2a := cell_at q2 0 _ rfl
        have c2b := cell_at q2 1 _ rfl
        have c3a := cell_at q3 0 _ rfl
        have c3b := cell_at q3 1 _ rfl
        clear q1 q2 q3
        clear hk1
        have HK1 := Lib.hid ((((Kept.alloc Nob w _).then (Kept.alloc Nob _ _)).then (Kept.alloc Nob _ _)).then HB1.out)
        by_cases d0 : n = 0
        case neg =>
          have hd0 : (n == 0) = false := beq_eq_false_iff_ne.2 d0
          have HR' : Hid (r = false) := Lib.hid (by rw [← HR.out]; simp [d0])
          clear HR
          go_wp2_with fail
          go_ret
          exact ⟨by rw [HR'.out]; rfl, HK1.out⟩
        case pos =>
          subst d0
          have HR' : Hid (r = decide (0 < m)) := Lib.hid (by rw [← HR.out]; simp [e1, f3])
          clear HR
          go_wp2_with fail
          refine (HD _).out.mono ?_
          rintro e w2 ⟨rfl, hk2⟩
          clear c1a c1b c2a c2b c3a c3b
          have HB2 := Lib.hid (HB1.out.then hk2)
          obtain ⟨q1, q2, q3⟩ := new3 HB2.out
          have c1a := cell_at q1 0 _ rfl
          have c1b := cell_at q1 1 _ rfl
          have c2a := cell_at q2 0 _ rfl
          have c2b := cell_at q2 1 _ rfl
          have c3a := cell_at q3 0 _ rfl
          have c3b := cell_at q3 1 _ rfl
          clear q1 q2 q3
          clear hk2
          have HK2 := Lib.hid ((((Kept.alloc Nob w _).then (Kept.alloc Nob _ _)).then (Kept.alloc Nob _ _)).then HB2.out)
          go_wp2_with fail
          go_ret
          exact ⟨ret_bool HR'.out.symm, HK2.out⟩
      case pos =>
        obtain rfl := f3.symm
        have HR' : Hid (r = false) := Lib.hid (by rw [← HR.out]; simp)
        clear HR
        go_wp2_with fail
        go_ret
        exact ⟨by rw [HR'.out]; rfl, (((Kept.alloc Nob w _).then (Kept.alloc Nob _ _)).then (Kept.alloc Nob _ _))⟩
  case pos =>
    obtain rfl := e1.symm
    by_cases f1 : y1 = y2
    case neg =>
      by_cases e3 : x3 = x2
      case neg =>
        go_wp2_with fail
        refine (HC _).out.mono ?_
        rintro e w1 ⟨rfl, hk1⟩
        have HB1 := Lib.hid hk1
        obtain ⟨q1, q2, q3⟩ := new3 HB1.out
        have c1a := cell_at q1 0 _ rfl
        have c1b := cell_at q1 1 _ rfl
        have c2a := cell_at q2 0 _ rfl
        have c2b := cell_at q2 1 _ rfl
        have c3a := cell_at q3 0 _ rfl
        have c3b := cell_at q3 1 _ rfl
        clear q1 q2 q3
        clear hk1
        have HK1 := Lib.hid ((((Kept.alloc Nob w _).then (Kept.alloc Nob _ _)).then (Kept.alloc Nob _ _)).then HB1.out)
        by_cases d0 : n = 0
        case neg =>
          have hd0 : (n == 0) = false := beq_eq_false_iff_ne.2 d0
          have HR' : Hid (r = false) := Lib.hid (by rw [← HR.out]; simp [d0])
          clear HR
          go_wp2_with fail
          go_ret
          exact ⟨by rw [HR'.out]; rfl, HK1.out⟩
        case pos =>
          subst d0
          have HR' : Hid (r = decide (0 < m)) := Lib.hid (by rw [← HR.out]; simp [f1, e3])
          clear HR
          go_wp2_with fail
          refine (HD _).out.mono ?_
          rintro e w2 ⟨rfl, hk2⟩
          clear c1a c1b c2a c2b c3a c3b
          have HB2 := Lib.hid (HB1.out.then hk2)
          obtain ⟨q1, q2, q3⟩ := new3 HB2.out
          have c1a := cell_at q1 0 _ rfl
          have c1b := cell_at q1 1 _ rfl
          have c2a := cell_at q2 0 _ rfl
          have c2b := cell_at q2 1 _ rfl
          have c3a := cell_at q3 0 _ rfl
          have c3b := cell_at q3 1 _ rfl
          clear q1 q2 q3
          clear hk2
          have HK2 := Lib.hid ((((Kept.alloc Nob w _).then (Kept.alloc Nob _ _)).then (Kept.alloc Nob _ _)).then HB2.out)
          go_wp2_with fail
          go_ret
          exact ⟨ret_bool HR'.out.symm, HK2.out⟩
      case pos =>
        obtain rfl := e3.symm
        by_cases f3 : y3 = y2
        case neg =>
          go_wp2_with fail
          refine (HC _).out.mono ?_
          rintro e w1 ⟨rfl, hk1⟩
          have HB1 := Lib.hid hk1
          obtain ⟨q1, q2, q3⟩ := new3 HB1.out
          have c1a := cell_at q1 0 _ rfl
          have c1b := cell_at q1 1 _ rfl
          have c2a := cell_at q2 0 _ rfl
          have c2b := cell_at q2 1 _ rfl
          have c3a := cell_at q3 0 _ rfl
          have c3b := cell_at q3 1 _ rfl
          clear q1 q2 q3
          clear hk1
          have HK1 := Lib.hid ((((Kept.alloc Nob w _).then (Kept.alloc Nob _ _)).then (Kept.alloc Nob _ _)).then HB1.out)
          by_cases d0 : n = 0
          case neg =>
            have hd0 : (n == 0) = false := beq_eq_false_iff_ne.2 d0
            have HR' : Hid (r = false) := Lib.hid (by rw [← HR.out]; simp [d0])
            clear HR
            go_wp2_with fail
            go_ret
            exact ⟨by rw [HR'.out]; rfl, HK1.out⟩
          case pos =>
            subst d0
            have HR' : Hid (r = decide (0 < m)) := Lib.hid (by rw [← HR.out]; simp [f1, f3])
            clear HR
            go_wp2_with fail
            refine (HD _).out.mono ?_
            rintro e w2 ⟨rfl, hk2⟩
            clear c1a c1b c2a c2b c3a c3b
            have HB2 := Lib.hid (HB1.out.then hk2)
            obtain ⟨q1, q2, q3⟩ := new3 HB2.out
            have c1a := cell_at q1 0 _ rfl
            have c1b := cell_at q1 1 _ rfl
            have c2a := cell_at q2 0 _ rfl
            have c2b := cell_at q2 1 _ rfl
            have c3a := cell_at q3 0 _ rfl
            have c3b := cell_at q3 1 _ rfl
            clear q1 q2 q3
            clear hk2
            have HK2 := Lib.hid ((((Kept.alloc Nob w _).then (Kept.alloc Nob _ _)).then (Kept.alloc Nob _ _)).then HB2.out)
            go_wp2_with fail
            go_ret
            exact ⟨ret_bool HR'.out.symm, HK2.out⟩
        case pos =>
          obtain rfl := f3.symm
          have HR' : Hid (r = false) := Lib.hid (by rw [← HR.out]; simp)
          clear HR
          go_wp2_with fail
          go_ret
          exact ⟨by rw [HR'.out]; rfl, (((Kept.alloc Nob w _).then (Kept.alloc Nob _ _)).then (Kept.alloc Nob _ _))⟩
    case pos =>
      obtain rfl := f1.symm
      have HR' : Hid (r = false) := Lib.hid (by rw [← HR.out]; simp)
      clear HR
      go_wp2_with fail
      go_ret
      exact ⟨by rw [HR'.out]; rfl, (((Kept.alloc Nob w _).then (Kept.alloc Nob _ _)).then (Kept.alloc Nob _ _))⟩
end Go.Proofs.YthjiobmglebmdaaGreatDoor
