/- plane: may a point be, may a box be; turns; is a point in a box. -/
import Derived.Test.YthjiobmglebmdaaGreatDoorChecked
import Derived.Test.YthjiobmglebmdaaGreatDoorPgRowK
import Derived.Test.YthjiobmglebmdaaGreatDoorPgFault
import Derived.Test.YthjiobmglebmdaaGreatDoorPgScGeo
namespace Go.Proofs.YthjiobmglebmdaaGreatDoor
open Go.RowKit
open Go.Proofs.YthjiobmglebmdaaGreatDoor.Geo

/-- the cells of points -/
def ptCells : List Pt → List Value
  | [] => []
  | p :: r => .int .i64 p.1 :: .int .i64 p.2 :: ptCells r
theorem ptCells_length : ∀ l : List Pt, (ptCells l).length = l.length * 2
  | [] => rfl
  | p :: r => by simp [ptCells, ptCells_length r]; omega
theorem ptCells_at : ∀ (l : List Pt) (i : Nat) (p : Pt), l[i]? = some p → (ptCells l)[i * 2]? = some (.int .i64 p.1) ∧ (ptCells l)[i * 2 + 1]? = some (.int .i64 p.2)
  | q :: r, 0, p, h => by simp at h; subst h; simp [ptCells]
  | q :: r, i + 1, p, h => by
    have := ptCells_at r i p (by simpa using h)
    rw [show (i + 1) * 2 = i * 2 + 1 + 1 from by omega]
    simpa [ptCells] using this
/-- the slice v reads as the points l -/
def PtsAt (w : World) (v : Value) (l : List Pt) (F : Nat → Prop) : Prop := ReadsK 2 w v l.length (ptCells l) F
theorem PtsAt.kept {w w' : World} {v : Value} {l : List Pt} {F G : Nat → Prop} (h : PtsAt w v l F) (hk : Kept G w w') (hd : ∀ k, F k → ¬ G k) : PtsAt w' v l F := ReadsK.kept h hk hd
theorem PtsAt.nob {w w' : World} {v : Value} {l : List Pt} {F : Nat → Prop} (h : PtsAt w v l F) (hk : Kept Nob w w') : PtsAt w' v l F := h.kept hk (fun _ _ f => f)
theorem PtsAt.new (w : World) (l : List Pt) (e : TypeId) : PtsAt (w.alloc (.cells (ptCells l).toArray e)) (.slice (some ⟨w.heap.size, 0, none⟩) l.length l.length) l (fun _ => True) := by
  refine ⟨ptCells_length l, .inr ⟨w.heap.size, 0, l.length, rfl, Nat.le_refl _, by simp, trivial, fun i x hx => ?_⟩⟩
  rw [Nat.zero_add]
  have := cell_at (w := w.alloc (.cells (ptCells l).toArray e)) (b := w.heap.size) (cs := (ptCells l).toArray) (e := e) (fz := (0, 0)) (heap_alloc_new w _) i x (by simpa using hx)
  exact this
theorem PtsAt.shape {w : World} {v : Value} {l : List Pt} {F : Nat → Prop} (h : PtsAt w v l F) : ∃ a cap, v = .slice a l.length cap := by
  obtain ⟨a, cap, h, _⟩ := ReadsK.shape h
  exact ⟨a, cap, h⟩
theorem PtsAt.at {w : World} {a : Option Addr} {n c : Nat} {l : List Pt} {F : Nat → Prop} (h : PtsAt w (.slice a n c) l F) {i : Nat} {p : Pt} (hp : l[i]? = some p) :
    ∃ b o, a = some ⟨b, o, none⟩ ∧ n = l.length ∧ b < w.heap.size ∧ F b ∧ w.cell? ⟨b, o + i * 2, none⟩ = some (.int .i64 p.1) ∧ w.cell? ⟨b, o + i * 2 + 1, none⟩ = some (.int .i64 p.2) := by
  have hi : i < l.length := (List.getElem?_eq_some_iff.1 hp).1
  obtain ⟨b, o, h1, h2, h3, h4, h5⟩ := ReadsK.at h hi
  obtain ⟨x0, a0, c0⟩ := h5 0 (by omega)
  obtain ⟨x1, a1, c1⟩ := h5 1 (by omega)
  obtain ⟨e0, e1⟩ := ptCells_at l i p hp
  rw [Nat.add_zero] at a0 c0
  rw [e0] at a0
  rw [e1] at a1
  cases a0; cases a1
  exact ⟨b, o, h1, h2, h3, h4, c0, by rw [Nat.add_assoc]; exact c1⟩

theorem okC_no {n : Int} (h : n < -1073741823 ∨ 1073741823 < n) : okC n = false := by
  simp only [okC, Bool.and_eq_false_iff, decide_eq_false_iff_not]; omega
theorem okC_yes {n : Int} (h : -1073741823 ≤ n) (h2 : n ≤ 1073741823) : okC n = true := by
  simp only [okC, Bool.and_eq_true, decide_eq_true_eq]; omega
theorem plane_far (w : World) (n : Int) : Calls Tryz.prog 134 #[.int .i64 n] w fun e w' => e = .returned (.bool (!okC n)) ∧ w = w' := by
  by_cases h : n < -1073741823
  · have hb : (!okC n) = true := by rw [okC_no (.inl h)]; rfl
    rw [hb]
    clear hb
    go_enter Tryz.func134, Tryz.ntmps134
    go_wp2
    go_ret
    exact ⟨rfl, rfl⟩
  · by_cases h2 : 1073741823 < n
    · have hb : (!okC n) = true := by rw [okC_no (.inr h2)]; rfl
      rw [hb]
      clear hb
      go_enter Tryz.func134, Tryz.ntmps134
      go_wp2
      go_ret
      exact ⟨rfl, rfl⟩
    · have hb : (!okC n) = false := by rw [okC_yes (by omega) (by omega)]; rfl
      rw [hb]
      clear hb
      go_enter Tryz.func134, Tryz.ntmps134
      go_wp2
      go_ret
      exact ⟨rfl, rfl⟩

set_option maxHeartbeats 400000 in
theorem plane_may (w : World) (v : Value) (l : List Pt) (F : Nat → Prop) (h : PtsAt w v l F) (hl : l.length < 1000000000) :
    Calls Tryz.prog 113 #[v] w fun e w' => e = .returned (.bool (l.all ok)) ∧ Kept Nob w w' := by
  obtain ⟨a, cap, rfl⟩ := h.shape
  have H := Lib.hid h
  clear h
  have HF := fun wx n => Lib.hid (plane_far wx n)
  go_enter Tryz.func113, Tryz.ntmps113
  go_wp2
  go_loopw [7] (fun i wr => ∃ k : Nat, k ≤ l.length ∧ i = .int .i64 k ∧ (l.take k).all ok = true ∧ Kept Nob w wr) (fun i _ => l.length - (intOf i).toNat)
  case atStart => exact ⟨0, Nat.zero_le _, rfl, rfl, Kept.refl _ _⟩
  case round =>
    obtain ⟨k, hk, rfl, he, hw⟩ := hrel
    have HE := Lib.hid he
    have HW := Lib.hid hw
    clear he hw
    by_cases hlt : k < l.length
    · obtain ⟨b, o, rfl, -, hb, -, c0, c1⟩ := (H.out.nob HW.out).at (List.getElem?_eq_getElem hlt)
      have HT : Hid (l.take (k + 1) = l.take k ++ [l[k]]) := Lib.hid (List.take_succ_eq_append_getElem hlt)
      obtain ⟨x, hx⟩ : ∃ x, l[k].1 = x := ⟨_, rfl⟩
      obtain ⟨y, hy⟩ : ∃ y, l[k].2 = y := ⟨_, rfl⟩
      rw [hx] at c0
      rw [hy] at c1
      have HX := Lib.hid hx
      have HY := Lib.hid hy
      clear hx hy
      have HO : Hid (ok l[k] = (okC x && okC y)) := Lib.hid (by rw [← HX.out, ← HY.out]; rfl)
      have HN : Hid (ok l[k] = false → l.all ok = false) := Lib.hid (fun h => List.all_eq_false.2 ⟨l[k], List.getElem_mem hlt, by rw [h]; exact Bool.false_ne_true⟩)
      have HFx := fun wx => HF wx x
      have HFy := fun wx => HF wx y
      clear HF
      generalize okC x = ox at HFx HO
      generalize okC y = oy at HFy HO
      rcases ox with _ | _
      · simp only [Bool.not_false] at HFx HFy
        go_wp2_with (go_at_call 134; refine (HFx _).out.mono ?_; rintro e w' ⟨rfl, rfl⟩)
        go_ret
        exact ⟨ret_bool (HN.out HO.out).symm, HW.out.then (Kept.alloc Nob _ _)⟩
      · rcases oy with _ | _
        · simp only [Bool.not_false, Bool.not_true] at HFx HFy
          go_wp2_with (first | (go_at_call 134; (with_reducible refine (HFx _).out.mono ?_); rintro e w' ⟨rfl, rfl⟩) | (go_at_call 134; (with_reducible refine (HFy _).out.mono ?_); rintro e w' ⟨rfl, rfl⟩))
          go_ret
          exact ⟨ret_bool (HN.out HO.out).symm, HW.out.then (Kept.alloc Nob _ _)⟩
        · simp only [Bool.not_true] at HFx HFy
          go_wp2_with (first | (go_at_call 134; (with_reducible refine (HFx _).out.mono ?_); rintro e w' ⟨rfl, rfl⟩) | (go_at_call 134; (with_reducible refine (HFy _).out.mono ?_); rintro e w' ⟨rfl, rfl⟩))
          go_roundw
          case rel => exact ⟨k + 1, by omega, by go_num, by rw [HT.out, List.all_append, HE.out]; simp [HO.out], HW.out.then (Kept.alloc Nob _ _)⟩
          case measure => simp [intOf]; omega
    · obtain rfl : k = l.length := by omega
      go_wp2
      go_ret
      refine ⟨ret_bool ?_, HW.out⟩
      have := HE.out
      rw [List.take_length] at this
      exact this.symm

/-- may, of points that are laid in a new block -/
theorem may_new (l : List Pt) (n : Nat) (cs : Array Value) (r : Bool) (hr : l.all ok = r) (hl : l.length = n) (hn : n < 1000000000) (hcs : cs = (ptCells l).toArray) (w : World) (g : Nat) (hg : w.heap.size = g) :
    Calls Tryz.prog 113 #[.slice (some ⟨g, 0, none⟩) n n] (w.alloc (.cells cs 42)) fun e w' => e = .returned (.bool r) ∧ Kept Nob w w' := by
  subst hg hl hcs
  refine (plane_may _ _ l _ (PtsAt.new w l _) hn).mono ?_
  rintro e w' ⟨rfl, hk⟩
  exact ⟨by rw [hr], (Kept.alloc Nob _ _).then hk⟩
theorem checkPoint_any (w : World) (x y : Int) (r : Bool) (h : ok (x, y) = r) :
    Calls Tryz.prog 93 #[.agg #[.int .i64 x, .int .i64 y]] w fun e w' => e = .returned (if r then .nilIface else .iface 31 (.int .i64 2)) ∧ Kept Nob w w' := by
  have HM := fun (wx : World) g hg => Lib.hid (may_new [(x, y)] 1 #[.int .i64 x, .int .i64 y] r (by simpa using h) rfl (by omega) rfl wx g hg)
  clear h
  cases r
  · go_enter Tryz.func93, Tryz.ntmps93
    go_wp2_with (go_at_call 113; refine (HM _ _ (by simp)).out.mono ?_; rintro e w' ⟨rfl, hk⟩)
    go_ret
    exact ⟨rfl, (Kept.alloc Nob _ _).then hk⟩
  · go_enter Tryz.func93, Tryz.ntmps93
    go_wp2_with (go_at_call 113; refine (HM _ _ (by simp)).out.mono ?_; rintro e w' ⟨rfl, hk⟩)
    go_ret
    exact ⟨rfl, (Kept.alloc Nob _ _).then hk⟩

theorem cmp_int (w : World) (x y : Int) : Calls Tryz.prog 160 #[.int .i64 x, .int .i64 y] w fun e w' => e = .returned (.int .i64 (sg (x - y))) ∧ w = w' := by
  have hs : sg (x - y) = if x < y then -1 else if y < x then 1 else 0 := by
    unfold sg
    by_cases a : x < y
    · rw [if_pos a, if_pos (by omega)]
    · rw [if_neg a, if_neg (by omega)]
      by_cases b : y < x
      · rw [if_pos b, if_pos (by omega)]
      · rw [if_neg b, if_neg (by omega)]
  rw [hs]
  by_cases h1 : x < y
  · rw [if_pos h1]
    go_enter Tryz.func160, Tryz.ntmps160
    go_wp2
    go_ret
    exact ⟨rfl, rfl⟩
  · by_cases h2 : y < x
    · rw [if_neg h1, if_pos h2]
      go_enter Tryz.func160, Tryz.ntmps160
      go_wp2
      go_ret
      exact ⟨rfl, rfl⟩
    · rw [if_neg h1, if_neg h2]
      go_enter Tryz.func160, Tryz.ntmps160
      go_wp2
      go_ret
      exact ⟨rfl, rfl⟩

/-- what was laid last is still there -/
theorem new1 {w w' : World} {a : Obj} (hk : Kept Nob (w.alloc a) w') : w'.heap[w.heap.size]? = some a :=
  (hk.block w.heap.size (by simp) (fun f => f)).trans (heap_alloc_new w a)
theorem new2 {w w' : World} {a b : Obj} (hk : Kept Nob ((w.alloc a).alloc b) w') : w'.heap[w.heap.size]? = some a ∧ w'.heap[w.heap.size + 1]? = some b := by
  have h := new1 hk
  rw [show (w.alloc a).heap.size = w.heap.size + 1 from by simp] at h
  exact ⟨new1 ((Kept.alloc Nob _ b).then hk), h⟩
theorem new3 {w w' : World} {a b c : Obj} (hk : Kept Nob (((w.alloc a).alloc b).alloc c) w') : w'.heap[w.heap.size]? = some a ∧ w'.heap[w.heap.size + 1]? = some b ∧ w'.heap[w.heap.size + 1 + 1]? = some c := by
  have h := new2 hk
  rw [show (w.alloc a).heap.size = w.heap.size + 1 from by simp] at h
  exact ⟨new1 ((Kept.alloc Nob _ b).then ((Kept.alloc Nob _ c).then hk)), h⟩
theorem new4 {w w' : World} {a b c d : Obj} (hk : Kept Nob ((((w.alloc a).alloc b).alloc c).alloc d) w') :
    w'.heap[w.heap.size]? = some a ∧ w'.heap[w.heap.size + 1]? = some b ∧ w'.heap[w.heap.size + 1 + 1]? = some c ∧ w'.heap[w.heap.size + 1 + 1 + 1]? = some d := by
  have h := new3 hk
  rw [show (w.alloc a).heap.size = w.heap.size + 1 from by simp] at h
  exact ⟨new1 ((Kept.alloc Nob _ b).then ((Kept.alloc Nob _ c).then ((Kept.alloc Nob _ d).then hk))), h⟩

theorem plane_cross (w : World) (x1 y1 x2 y2 x3 y3 : Int) (h1 : ok (x1, y1) = true) (h2 : ok (x2, y2) = true) (h3 : ok (x3, y3) = true) :
    Calls Tryz.prog 161 #[.agg #[.int .i64 x1, .int .i64 y1], .agg #[.int .i64 x2, .int .i64 y2], .agg #[.int .i64 x3, .int .i64 y3]] w fun e w' => e = .returned (.int .i64 (cr (x1, y1) (x2, y2) (x3, y3))) ∧ Kept Nob w w' := by
  have HM := fun (wx : World) g hg => Lib.hid (may_new [(x1, y1), (x2, y2), (x3, y3)] 3 #[.int .i64 x1, .int .i64 y1, .int .i64 x2, .int .i64 y2, .int .i64 x3, .int .i64 y3] true (by simp [h1, h2, h3]) rfl (by omega) rfl wx g hg)
  have hb := cr_bound h1 h2 h3
  rw [ok_iff] at h1 h2 h3
  simp only at hb h1 h2 h3
  have b1 : wrap64 (x2 - x1) = x2 - x1 := IntWalk.wrap64_in _ (by omega)
  have b2 : wrap64 (y3 - y1) = y3 - y1 := IntWalk.wrap64_in _ (by omega)
  have b3 : wrap64 (y2 - y1) = y2 - y1 := IntWalk.wrap64_in _ (by omega)
  have b4 : wrap64 (x3 - x1) = x3 - x1 := IntWalk.wrap64_in _ (by omega)
  have b5 : wrap64 ((x2 - x1) * (y3 - y1)) = (x2 - x1) * (y3 - y1) := IntWalk.wrap64_in _ (by omega)
  have b6 : wrap64 ((y2 - y1) * (x3 - x1)) = (y2 - y1) * (x3 - x1) := IntWalk.wrap64_in _ (by omega)
  have b7 : wrap64 ((x2 - x1) * (y3 - y1) - (y2 - y1) * (x3 - x1)) = (x2 - x1) * (y3 - y1) - (y2 - y1) * (x3 - x1) := IntWalk.wrap64_in _ (by omega)
  clear h1 h2 h3 hb
  go_enter Tryz.func161, Tryz.ntmps161
  go_wp2_with fail
  refine (HM _ _ (by simp)).out.mono ?_
  rintro e w' ⟨rfl, hk⟩
  obtain ⟨b1', b2', b3'⟩ := new3 hk
  have c1 := cell_at b1' 0 _ rfl
  have c2 := cell_at b1' 1 _ rfl
  have c3 := cell_at b2' 0 _ rfl
  have c4 := cell_at b2' 1 _ rfl
  have c5 := cell_at b3' 0 _ rfl
  have c6 := cell_at b3' 1 _ rfl
  clear b1' b2' b3'
  have HK := Lib.hid ((((Kept.alloc Nob w _).then (Kept.alloc Nob _ _)).then (Kept.alloc Nob _ _)).then hk)
  clear hk HM
  go_wp2_with fail
  go_ret
  exact ⟨ret_int b7, HK.out⟩
theorem plane_orient (w : World) (x1 y1 x2 y2 x3 y3 : Int) (h1 : ok (x1, y1) = true) (h2 : ok (x2, y2) = true) (h3 : ok (x3, y3) = true) :
    Calls Tryz.prog 149 #[.agg #[.int .i64 x1, .int .i64 y1], .agg #[.int .i64 x2, .int .i64 y2], .agg #[.int .i64 x3, .int .i64 y3]] w fun e w' => e = .returned (.int .i64 (sg (cr (x1, y1) (x2, y2) (x3, y3)))) ∧ Kept Nob w w' := by
  have HC := fun (wx : World) => Lib.hid (plane_cross wx x1 y1 x2 y2 x3 y3 h1 h2 h3)
  clear h1 h2 h3
  generalize cr (x1, y1) (x2, y2) (x3, y3) = n at HC ⊢
  have HM := fun (wx : World) => Lib.hid (cmp_int wx n 0)
  rw [Int.sub_zero] at HM
  go_enter Tryz.func149, Tryz.ntmps149
  go_wp2_with fail
  refine (HC _).out.mono ?_
  rintro e w' ⟨rfl, hk⟩
  have HK := Lib.hid hk
  clear hk
  go_wp2_with fail
  refine (HM _).out.mono ?_
  rintro e w2 ⟨rfl, rfl⟩
  go_wp2_with fail
  go_ret
  exact ⟨rfl, (((Kept.alloc Nob _ _).then (Kept.alloc Nob _ _)).then (Kept.alloc Nob _ _)).then HK.out⟩

/-- may a box be? -/
def bxOk (x1 y1 x2 y2 : Int) : Bool := ok (x1, y1) && ok (x2, y2) && decide (x1 ≤ x2) && decide (y1 ≤ y2)
/-- nil, or an error -/
def MayErr (r : Bool) (v : Value) : Prop := if r then v = .nilIface else ∃ t u, v = .iface t u ∧ (Value.iface t u).oneCell' = true
set_option maxHeartbeats 400000 in
theorem checkBox_any (w : World) (x1 y1 x2 y2 : Int) :
    Calls Tryz.prog 91 #[.agg #[.int .i64 x1, .int .i64 y1, .int .i64 x2, .int .i64 y2]] w fun e w' => ∃ v, e = .returned v ∧ MayErr (bxOk x1 y1 x2 y2) v ∧ Kept Nob w w' := by
  have HM := fun (wx : World) g hg => Lib.hid (may_new [(x1, y1), (x2, y2)] 2 #[.int .i64 x1, .int .i64 y1, .int .i64 x2, .int .i64 y2] (ok (x1, y1) && ok (x2, y2)) (by simp) rfl (by omega) rfl wx g hg)
  obtain ⟨r, hr⟩ : ∃ r, (ok (x1, y1) && ok (x2, y2)) = r := ⟨_, rfl⟩
  have HB : Hid (bxOk x1 y1 x2 y2 = (r && decide (x1 ≤ x2) && decide (y1 ≤ y2))) := Lib.hid (by rw [← hr]; rfl)
  rw [hr] at HM
  clear hr
  cases r
  · go_enter Tryz.func91, Tryz.ntmps91
    go_wp2_with fail
    refine (HM _ _ (by simp)).out.mono ?_
    rintro e w' ⟨rfl, hk⟩
    have HK := Lib.hid hk
    clear hk
    go_wp2_with fail
    go_ret
    refine ⟨_, rfl, ?_, (Kept.alloc Nob _ _).then HK.out⟩
    rw [HB.out]
    exact ⟨_, _, rfl, rfl⟩
  · go_enter Tryz.func91, Tryz.ntmps91
    go_wp2_with fail
    refine (HM _ _ (by simp)).out.mono ?_
    rintro e w' ⟨rfl, hk⟩
    have b1 := new1 hk
    have c1 := cell_at b1 0 _ rfl
    have c2 := cell_at b1 1 _ rfl
    have c3 := cell_at b1 2 _ rfl
    have c4 := cell_at b1 3 _ rfl
    have HK := Lib.hid ((Kept.alloc Nob _ _).then hk)
    clear hk b1
    by_cases hx : x1 ≤ x2
    · by_cases hy : y1 ≤ y2
      · go_wp2_with fail
        go_ret
        refine ⟨_, rfl, ?_, HK.out⟩
        rw [HB.out]
        simp [hx, hy, MayErr]
      · go_wp2_with fail
        go_ret
        refine ⟨_, rfl, ?_, HK.out⟩
        rw [show bxOk x1 y1 x2 y2 = false from by rw [HB.out, decide_eq_false (show ¬ y1 ≤ y2 by omega), Bool.and_false]]
        exact ⟨_, _, rfl, rfl⟩
    · go_wp2_with fail
      go_ret
      refine ⟨_, rfl, ?_, HK.out⟩
      rw [show bxOk x1 y1 x2 y2 = false from by rw [HB.out, decide_eq_false (show ¬ x1 ≤ x2 by omega), Bool.and_false, Bool.false_and]]
      exact ⟨_, _, rfl, rfl⟩
theorem checkBox_ok (w : World) (x1 y1 x2 y2 : Int) (h : bxOk x1 y1 x2 y2 = true) :
    Calls Tryz.prog 91 #[.agg #[.int .i64 x1, .int .i64 y1, .int .i64 x2, .int .i64 y2]] w fun e w' => e = .returned .nilIface ∧ Kept Nob w w' := by
  refine (checkBox_any w x1 y1 x2 y2).mono ?_
  rintro e w' ⟨v, rfl, hv, hk⟩
  rw [h] at hv
  exact ⟨by rw [show v = .nilIface from hv], hk⟩
/-- boxes, of one that may be, in a new block -/
theorem boxes_one (x1 y1 x2 y2 : Int) (h : bxOk x1 y1 x2 y2 = true) (w : World) (g : Nat) (hg : w.heap.size = g) :
    Calls Tryz.prog 162 #[.slice (some ⟨g, 0, none⟩) 1 1] (w.alloc (.cells #[.int .i64 x1, .int .i64 y1, .int .i64 x2, .int .i64 y2] 44)) fun e w' => e = .returned (.bool true) ∧ Kept Nob w w' := by
  subst hg
  have HB := fun wx => Lib.hid (checkBox_ok wx x1 y1 x2 y2 h)
  clear h
  go_enter Tryz.func162, Tryz.ntmps162
  go_wp2
  refine wp_loop_rounds 2 ?_
  rw [rounds_succ]
  go_wp2_with fail
  refine (HB _).out.mono ?_
  rintro e w' ⟨rfl, hk⟩
  have HK := Lib.hid ((Kept.alloc Nob w _).then ((Kept.alloc Nob _ _).then hk))
  clear hk
  go_wp2_with fail
  rw [rounds_succ]
  go_wp2_with fail
  go_ret
  exact ⟨rfl, HK.out⟩
end Go.Proofs.YthjiobmglebmdaaGreatDoor
