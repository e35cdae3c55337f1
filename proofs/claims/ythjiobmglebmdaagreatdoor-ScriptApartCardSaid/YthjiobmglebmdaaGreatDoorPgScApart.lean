/- ScriptApart: unlike objects have unlike texts, unlike answers too. Printed by gen_apart.py. -/
import Derived.Test.YthjiobmglebmdaaGreatDoorPgScAwake
namespace Go.Proofs.YthjiobmglebmdaaGreatDoor
open Go.RowKit
open Go.Proofs.YthjiobmglebmdaaGreatDoor.Geo Go.Proofs.YthjiobmglebmdaaGreatDoor.Txt

theorem tIntsA : Plain Tryz.prog 22 3 (.int .i64 0) 8 := Plain.of Tryz.underlying22 (by kernel_rfl) rfl
theorem ref_May (w : World) (k : Int) (v : Value) (l : List Pt) (F : Nat → Prop) (h : PtsAt w v l F) :
    Calls Tryz.prog 11 #[.agg #[.int .i64 k, v]] w (RetDec w (ObOk ⟨k, l⟩)) := by
  obtain ⟨a, cap, rfl⟩ := h.shape
  by_cases hl : l.length ≤ 64
  · have HC := fun (wx : World) (kx : Kept Nob w wx) => Lib.hid (ref_Check wx k _ l F (h.nob kx) (by omega))
    have hl' : (l.length : Int) ≤ 64 := by omega
    clear h hl
    go_enter Tryz.func11, Tryz.ntmps11
    go_wp2_with fail
    refine (HC _ (Kept.alloc _ _ _)).out.mono ?_
    rintro e w1 ⟨c, rfl, hc, hk1⟩
    have HCc := Lib.hid hc
    have HK := Lib.hid ((Kept.alloc Nob w _).then hk1)
    clear hc hk1
    go_wp2_with fail
    go_ret
    exact ⟨_, rfl, by rw [← HCc.out]; simp, HK.out⟩
  · have hl' : ¬ (l.length : Int) ≤ 64 := by omega
    have HN : Hid (¬ ObOk ⟨k, l⟩) := Lib.hid (fun ho => by have h2 : l.length ≤ 64 := ho.len.2; omega)
    clear h hl
    go_enter Tryz.func11, Tryz.ntmps11
    go_wp2_with fail
    go_ret
    exact RetDec.no HN.out (Kept.alloc _ _ _)
theorem empty_new2 (w : World) (A : Obj) (e : TypeId) : Own ((w.alloc A).alloc (.cells #[] e)) e (.slice (some ⟨w.heap.size + 1, 0, none⟩) 0 0) [] (From (w.heap.size + 1)) := by
  have := Own.empty_new (w.alloc A) e
  rw [show (w.alloc A).heap.size = w.heap.size + 1 from by simp] at this
  exact this
theorem Own.step3 {w w1 w2 : World} {A : Obj} {e : TypeId} {v v2 : Value} {xs ys : List Value} (h : Own w1 e v xs (From (w.heap.size + 1))) (hk : Kept Nob (w.alloc A) w1) (h2 : Own w2 e v2 ys (fun k => v.ownBlock = some k ∨ w1.heap.size ≤ k))
    (hk2 : Kept (fun k => v.ownBlock = some k) w1 w2) : Own w2 e v2 ys (From (w.heap.size + 1)) ∧ Kept Nob (w.alloc A) w2 := by
  have e1 : (w.alloc A).heap.size = w.heap.size + 1 := by simp
  rw [← e1] at h ⊢
  exact Own.step h hk h2 hk2
theorem Own.step2 {w w2 : World} {A : Obj} {e : TypeId} {v v2 : Value} {xs ys : List Value} (h : Own ((w.alloc A).alloc (.cells #[] e)) e v xs (From (w.heap.size + 1))) (h2 : Own w2 e v2 ys (fun k => v.ownBlock = some k ∨ ((w.alloc A).alloc (.cells #[] e)).heap.size ≤ k))
    (hk2 : Kept (fun k => v.ownBlock = some k) ((w.alloc A).alloc (.cells #[] e)) w2) : Own w2 e v2 ys (From (w.heap.size + 1)) ∧ Kept Nob (w.alloc A) w2 := Own.step3 h (Kept.alloc _ _ _) h2 hk2
theorem three_new (w : World) (A B C : Obj) : (((w.alloc A).alloc B).alloc C).heap[w.heap.size]? = some A ∧ (((w.alloc A).alloc B).alloc C).heap[w.heap.size + 1]? = some B ∧ (((w.alloc A).alloc B).alloc C).heap[w.heap.size + 1 + 1]? = some C := by
  have h := new3 (Kept.refl Nob (((w.alloc A).alloc B).alloc C))
  exact h
def T0 : Int → Int → Int → List UInt8 := fun _ _ _ => []
theorem ans_ids (ids : List Int) : ansText T0 0 [] ids [] ⟨0, []⟩ false = Lib.join (wOk :: ids.map Lib.itoa) [32] := by
  unfold ansText ansWords
  rw [if_pos rfl]
  simp
theorem ans_ids_ne (ids : List Int) (more : Int) : ansText T0 0 [] ids [] ⟨0, []⟩ false ≠ ansText T0 0 [] (ids ++ [more]) [] ⟨0, []⟩ false := by
  rw [ans_ids, ans_ids]
  intro h
  have hf : ∀ l : List Int, sp (Lib.join (wOk :: l.map Lib.itoa) [32]) = wOk :: l.map Lib.itoa := fun l => sp_join _ (by simp) (by
    intro x hx
    simp only [List.mem_cons, List.mem_map] at hx
    rcases hx with rfl | ⟨n, _, rfl⟩
    · decide
    · exact (itoa_free n).1)
  have := congrArg sp h
  rw [hf, hf] at this
  have := congrArg List.length this
  simp at this
theorem ans_ob (o : Ob) : ansText T0 0 [] [] [] o true = wOk ++ 32 :: (91 :: (obText o ++ [93])) := by
  unfold ansText ansWords
  rw [if_pos rfl]
  simp [Lib.join_cons, Lib.joinTail]
theorem ans_ob_iff {a b : Ob} (ha : ObOk a) (hb : ObOk b) : ansText T0 0 [] [] [] a true = ansText T0 0 [] [] [] b true ↔ a = b := by
  rw [ans_ob, ans_ob]
  constructor
  · intro h
    simp at h
    exact obText_inj ha hb h
  · rintro rfl; rfl
theorem ans_none : ansText T0 0 [] [] [] ⟨0, []⟩ false = [111, 107] := by rw [ans_ids]; rfl
set_option maxRecDepth 100000 in
set_option maxHeartbeats 16000000 in
theorem apart_any (w : World) (k1 : Int) (v1 : Value) (l1 : List Pt) (F1 : Nat → Prop) (h1 : PtsAt w v1 l1 F1) (k2 : Int) (v2 : Value) (l2 : List Pt) (F2 : Nat → Prop) (h2 : PtsAt w v2 l2 F2)
    (v3 : Value) (ids : List Int) (F3 : Nat → Prop) (h3 : Reads w v3 (ids.map (.int .i64)) F3) (more : Int) (hm : InI64 more) (hi : ∀ n ∈ ids, InI64 n) (hE : Env w) :
    Calls Tryz.prog 4 #[.agg #[.int .i64 k1, v1], .agg #[.int .i64 k2, v2], v3, .int .i64 more] w (RetTrue w) := by
  obtain ⟨a1, cap1, rfl⟩ := h1.shape
  obtain ⟨a2, cap2, rfl⟩ := h2.shape
  obtain ⟨ia, ic, rfl, -⟩ := h3.shape
  have e3 : (ids.map (Value.int .i64)).length = ids.length := by simp
  rw [e3] at h3 ⊢
  clear e3
  have HAw := fun (wx : World) (kx : Kept Nob w wx) => Lib.hid (sc_awake wx (hE.kept kx))
  have HM1 := fun (wx : World) (kx : Kept Nob w wx) => Lib.hid (ref_May wx k1 _ l1 F1 (h1.nob kx))
  have HM2 := fun (wx : World) (kx : Kept Nob w wx) => Lib.hid (ref_May wx k2 _ l2 F2 (h2.nob kx))
  have H1 := Lib.hid h1
  have H2 := Lib.hid h2
  have H3 := Lib.hid h3
  have HE := Lib.hid hE
  have HIi := Lib.hid hi
  clear h1 h2 h3 hE hi
  by_cases ho1 : ObOk ⟨k1, l1⟩
  case neg =>
    go_enter Tryz.func4, Tryz.ntmps4
    go_wp2_with fail
    refine (HM1 _ ((Kept.alloc Nob w _).then (Kept.alloc Nob _ _))).out.mono ?_
    rintro e w1 ⟨b1, rfl, hb1, hk1⟩
    obtain rfl : b1 = false := by cases b1 with | false => rfl | true => exact absurd (hb1.1 rfl) ho1
    clear hb1
    have HB1 : Hid (Kept Nob ((w.alloc (.cells #[.int .i64 k1, .slice a1 l1.length cap1] 26)).alloc (.cells #[.int .i64 k2, .slice a2 l2.length cap2] 26)) w1) := Lib.hid hk1
    have HK1 : Hid (Kept Nob w w1) := Lib.hid (((Kept.alloc Nob w _).then (Kept.alloc Nob _ _)).then HB1.out)
    clear hk1
    obtain ⟨q1, q2⟩ := new2 HB1.out
    have o0 := cell_at q1 0 _ rfl
    have o1 := cell_at q1 1 _ rfl
    have p0 := cell_at q2 0 _ rfl
    have p1 := cell_at q2 1 _ rfl
    have gA := (Array.getElem?_eq_some_iff.1 q1).1
    have gB := (Array.getElem?_eq_some_iff.1 q2).1
    clear q1 q2
    go_wp2_with fail
    refine (HAw _ HK1.out).out.mono ?_
    rintro e w9 ⟨rfl, hk9⟩
    have HK9 := Lib.hid (HK1.out.then hk9)
    clear hk9
    go_wp2_with fail
    go_ret
    exact ⟨rfl, HK9.out⟩
  case pos =>
    by_cases ho2 : ObOk ⟨k2, l2⟩
    case neg =>
      go_enter Tryz.func4, Tryz.ntmps4
      go_wp2_with fail
      refine (HM1 _ ((Kept.alloc Nob w _).then (Kept.alloc Nob _ _))).out.mono ?_
      rintro e w1 ⟨b1, rfl, hb1, hk1⟩
      obtain rfl := hb1.2 ho1
      clear hb1
      have HB1 : Hid (Kept Nob ((w.alloc (.cells #[.int .i64 k1, .slice a1 l1.length cap1] 26)).alloc (.cells #[.int .i64 k2, .slice a2 l2.length cap2] 26)) w1) := Lib.hid hk1
      have HK1 : Hid (Kept Nob w w1) := Lib.hid (((Kept.alloc Nob w _).then (Kept.alloc Nob _ _)).then HB1.out)
      clear hk1
      obtain ⟨q1, q2⟩ := new2 HB1.out
      have o0 := cell_at q1 0 _ rfl
      have o1 := cell_at q1 1 _ rfl
      have p0 := cell_at q2 0 _ rfl
      have p1 := cell_at q2 1 _ rfl
      have gA := (Array.getElem?_eq_some_iff.1 q1).1
      have gB := (Array.getElem?_eq_some_iff.1 q2).1
      clear q1 q2
      go_wp2_with fail
      refine (HM2 _ HK1.out).out.mono ?_
      rintro e w2 ⟨b2, rfl, hb2, hk2⟩
      obtain rfl : b2 = false := by cases b2 with | false => rfl | true => exact absurd (hb2.1 rfl) ho2
      clear hb2
      clear o0 o1 p0 p1 gA gB
      have HB2 : Hid (Kept Nob ((w.alloc (.cells #[.int .i64 k1, .slice a1 l1.length cap1] 26)).alloc (.cells #[.int .i64 k2, .slice a2 l2.length cap2] 26)) w2) := Lib.hid (HB1.out.then hk2)
      have HK2 : Hid (Kept Nob w w2) := Lib.hid (((Kept.alloc Nob w _).then (Kept.alloc Nob _ _)).then HB2.out)
      clear hk2
      obtain ⟨q1, q2⟩ := new2 HB2.out
      have o0 := cell_at q1 0 _ rfl
      have o1 := cell_at q1 1 _ rfl
      have p0 := cell_at q2 0 _ rfl
      have p1 := cell_at q2 1 _ rfl
      have gA := (Array.getElem?_eq_some_iff.1 q1).1
      have gB := (Array.getElem?_eq_some_iff.1 q2).1
      clear q1 q2
      go_wp2_with fail
      refine (HAw _ HK2.out).out.mono ?_
      rintro e w9 ⟨rfl, hk9⟩
      have HK9 := Lib.hid (HK2.out.then hk9)
      clear hk9
      go_wp2_with fail
      go_ret
      exact ⟨rfl, HK9.out⟩
    case pos =>
      by_cases hid : 30 < ids.length
      case pos =>
        have hid' : (30 : Int) < (ids.length : Int) := by omega
        go_enter Tryz.func4, Tryz.ntmps4
        go_wp2_with fail
        refine (HM1 _ ((Kept.alloc Nob w _).then (Kept.alloc Nob _ _))).out.mono ?_
        rintro e w1 ⟨b1, rfl, hb1, hk1⟩
        obtain rfl := hb1.2 ho1
        clear hb1
        have HB1 : Hid (Kept Nob ((w.alloc (.cells #[.int .i64 k1, .slice a1 l1.length cap1] 26)).alloc (.cells #[.int .i64 k2, .slice a2 l2.length cap2] 26)) w1) := Lib.hid hk1
        have HK1 : Hid (Kept Nob w w1) := Lib.hid (((Kept.alloc Nob w _).then (Kept.alloc Nob _ _)).then HB1.out)
        clear hk1
        obtain ⟨q1, q2⟩ := new2 HB1.out
        have o0 := cell_at q1 0 _ rfl
        have o1 := cell_at q1 1 _ rfl
        have p0 := cell_at q2 0 _ rfl
        have p1 := cell_at q2 1 _ rfl
        have gA := (Array.getElem?_eq_some_iff.1 q1).1
        have gB := (Array.getElem?_eq_some_iff.1 q2).1
        clear q1 q2
        go_wp2_with fail
        refine (HM2 _ HK1.out).out.mono ?_
        rintro e w2 ⟨b2, rfl, hb2, hk2⟩
        obtain rfl := hb2.2 ho2
        clear hb2
        clear o0 o1 p0 p1 gA gB
        have HB2 : Hid (Kept Nob ((w.alloc (.cells #[.int .i64 k1, .slice a1 l1.length cap1] 26)).alloc (.cells #[.int .i64 k2, .slice a2 l2.length cap2] 26)) w2) := Lib.hid (HB1.out.then hk2)
        have HK2 : Hid (Kept Nob w w2) := Lib.hid (((Kept.alloc Nob w _).then (Kept.alloc Nob _ _)).then HB2.out)
        clear hk2
        obtain ⟨q1, q2⟩ := new2 HB2.out
        have o0 := cell_at q1 0 _ rfl
        have o1 := cell_at q1 1 _ rfl
        have p0 := cell_at q2 0 _ rfl
        have p1 := cell_at q2 1 _ rfl
        have gA := (Array.getElem?_eq_some_iff.1 q1).1
        have gB := (Array.getElem?_eq_some_iff.1 q2).1
        clear q1 q2
        go_wp2_with fail
        refine (HAw _ HK2.out).out.mono ?_
        rintro e w9 ⟨rfl, hk9⟩
        have HK9 := Lib.hid (HK2.out.then hk9)
        clear hk9
        go_wp2_with fail
        go_ret
        exact ⟨rfl, HK9.out⟩
      case neg =>
        have hid' : ¬ (30 : Int) < (ids.length : Int) := by omega
        have hl1 : l1.length ≤ 64 := ho1.len.2
        have hl2 : l2.length ≤ 64 := ho2.len.2
        have HO1 := fun (wx : World) (kx : Kept Nob w wx) => Lib.hid (script_Object wx k1 _ l1 F1 (H1.out.nob kx) (by omega) (HE.out.kept kx))
        have HO2 := fun (wx : World) (kx : Kept Nob w wx) => Lib.hid (script_Object wx k2 _ l2 F2 (H2.out.nob kx) (by omega) (HE.out.kept kx))
        have HSm := fun (wx : World) (kx : Kept Nob w wx) => Lib.hid (ref_Same wx k1 k2 _ _ l1 l2 F1 F2 (H1.out.nob kx) (H2.out.nob kx) (by omega) (by omega))
        have HAx := fun (wx : World) (kx : Kept Nob w wx) => Lib.hid (script_Answer wx 0 0 (.slice none 0 0) _ (.slice none 0 0) (.slice none 0 0) [] ids [] [] false Nob _ Nob _ T0 (.inl ⟨rfl, none, 0, rfl, fun _ => rfl⟩) (H3.out.kept kx (fun _ _ f => f)) ⟨rfl, .inl ⟨rfl, none, 0, rfl, fun _ => rfl⟩⟩ (PtsAt.nils _ Nob) (HE.out.kept kx) (by simp) (by simp) (by omega) (by simp) (by simp) ⟨by omega, by omega⟩ HIi.out (by simp) (by simp) (by simp))
        have HAy := fun (wx : World) (kx : Kept Nob w wx) (u : Value) (G : Nat → Prop) (hu : Reads wx u ((ids ++ [more]).map (.int .i64)) G) => Lib.hid (script_Answer wx 0 0 (.slice none 0 0) _ (.slice none 0 0) (.slice none 0 0) [] (ids ++ [more]) [] [] false Nob _ Nob _ T0 (.inl ⟨rfl, none, 0, rfl, fun _ => rfl⟩) hu ⟨rfl, .inl ⟨rfl, none, 0, rfl, fun _ => rfl⟩⟩ (PtsAt.nils _ Nob) (HE.out.kept kx) (by simp) (by simp) (by simp; omega) (by simp) (by simp) ⟨by omega, by omega⟩ (fun n hn => by simp only [List.mem_append, List.mem_cons, List.not_mem_nil, or_false] at hn; rcases hn with hn | rfl; exact HIi.out n hn; exact hm) (by simp) (by simp) (by simp))
        have HAz := fun (wx : World) (kx : Kept Nob w wx) => Lib.hid (script_Answer wx 0 k1 (.slice none 0 0) (.slice none 0 0) (.slice none 0 0) _ [] [] [] l1 true Nob Nob Nob _ T0 (.inl ⟨rfl, none, 0, rfl, fun _ => rfl⟩) (.inl ⟨rfl, none, 0, rfl, fun _ => rfl⟩) ⟨rfl, .inl ⟨rfl, none, 0, rfl, fun _ => rfl⟩⟩ (H1.out.nob kx) (HE.out.kept kx) (by simp) (by simp) (by simp) (by simp) (by omega) ⟨by omega, by omega⟩ (by simp) (by simp) (by simp) (by simp))
        have HAw2 := fun (wx : World) (kx : Kept Nob w wx) => Lib.hid (script_Answer wx 0 k2 (.slice none 0 0) (.slice none 0 0) (.slice none 0 0) _ [] [] [] l2 true Nob Nob Nob _ T0 (.inl ⟨rfl, none, 0, rfl, fun _ => rfl⟩) (.inl ⟨rfl, none, 0, rfl, fun _ => rfl⟩) ⟨rfl, .inl ⟨rfl, none, 0, rfl, fun _ => rfl⟩⟩ (H2.out.nob kx) (HE.out.kept kx) (by simp) (by simp) (by simp) (by simp) (by omega) ⟨by omega, by omega⟩ (by simp) (by simp) (by simp) (by simp))
        have HA0 := fun (wx : World) (kx : Kept Nob w wx) => Lib.hid (script_Answer wx 0 0 (.slice none 0 0) (.slice none 0 0) (.slice none 0 0) (.slice none 0 0) [] [] [] [] false Nob Nob Nob _ T0 (.inl ⟨rfl, none, 0, rfl, fun _ => rfl⟩) (.inl ⟨rfl, none, 0, rfl, fun _ => rfl⟩) ⟨rfl, .inl ⟨rfl, none, 0, rfl, fun _ => rfl⟩⟩ (PtsAt.nils _ Nob) (HE.out.kept kx) (by simp) (by simp) (by simp) (by simp) (by simp) ⟨by omega, by omega⟩ (by simp) (by simp) (by simp) (by simp))
        have HNe := Lib.hid (ans_ids_ne ids more)
        have HIf := Lib.hid (ans_ob_iff ho1 ho2)
        have HOf : Hid (obText ⟨k1, l1⟩ = obText ⟨k2, l2⟩ ↔ (⟨k1, l1⟩ : Ob) = ⟨k2, l2⟩) := Lib.hid ⟨obText_inj ho1 ho2, fun h => by rw [h]⟩
        simp only [ans_none] at HA0
        obtain ⟨s1, hs1⟩ : ∃ u, (⟨(obText ⟨k1, l1⟩).toArray⟩ : ByteArray) = u := ⟨_, rfl⟩
        simp only [strV, hs1] at HO1
        have Ls1 : Hid (s1.toList = obText ⟨k1, l1⟩) := Lib.hid (by rw [← hs1, ByteArray.toList_eq])
        clear hs1
        obtain ⟨s2, hs2⟩ : ∃ u, (⟨(obText ⟨k2, l2⟩).toArray⟩ : ByteArray) = u := ⟨_, rfl⟩
        simp only [strV, hs2] at HO2
        have Ls2 : Hid (s2.toList = obText ⟨k2, l2⟩) := Lib.hid (by rw [← hs2, ByteArray.toList_eq])
        clear hs2
        obtain ⟨tx, htx⟩ : ∃ u, (⟨(ansText T0 0 [] ids [] ⟨0, []⟩ false).toArray⟩ : ByteArray) = u := ⟨_, rfl⟩
        simp only [strV, htx] at HAx
        have Ltx : Hid (tx.toList = ansText T0 0 [] ids [] ⟨0, []⟩ false) := Lib.hid (by rw [← htx, ByteArray.toList_eq])
        clear htx
        obtain ⟨ty, hty⟩ : ∃ u, (⟨(ansText T0 0 [] (ids ++ [more]) [] ⟨0, []⟩ false).toArray⟩ : ByteArray) = u := ⟨_, rfl⟩
        simp only [strV, hty] at HAy
        have Lty : Hid (ty.toList = ansText T0 0 [] (ids ++ [more]) [] ⟨0, []⟩ false) := Lib.hid (by rw [← hty, ByteArray.toList_eq])
        clear hty
        obtain ⟨tz, htz⟩ : ∃ u, (⟨(ansText T0 0 [] [] [] ⟨k1, l1⟩ true).toArray⟩ : ByteArray) = u := ⟨_, rfl⟩
        simp only [strV, htz] at HAz
        have Ltz : Hid (tz.toList = ansText T0 0 [] [] [] ⟨k1, l1⟩ true) := Lib.hid (by rw [← htz, ByteArray.toList_eq])
        clear htz
        obtain ⟨tw, htw⟩ : ∃ u, (⟨(ansText T0 0 [] [] [] ⟨k2, l2⟩ true).toArray⟩ : ByteArray) = u := ⟨_, rfl⟩
        simp only [strV, htw] at HAw2
        have Ltw : Hid (tw.toList = ansText T0 0 [] [] [] ⟨k2, l2⟩ true) := Lib.hid (by rw [← htw, ByteArray.toList_eq])
        clear htw
        simp only [strV] at HA0
        have Ho1 := Lib.hid ho1
        have Ho2 := Lib.hid ho2
        clear ho1 ho2 hid
        obtain ⟨same, hsame⟩ : ∃ b : Bool, b = true ↔ (⟨k1, l1⟩ : Ob) = ⟨k2, l2⟩ := by
          by_cases h : (⟨k1, l1⟩ : Ob) = ⟨k2, l2⟩
          · exact ⟨true, fun _ => h, fun _ => rfl⟩
          · exact ⟨false, fun e => (by cases e), fun e => absurd e h⟩
        have be : (s1.toList == s2.toList) = same := by rw [Ls1.out, Ls2.out]; cases same with
          | true => exact beq_iff_eq.2 (HOf.out.2 (hsame.1 rfl))
          | false => exact beq_eq_false_iff_ne.2 (fun h => by have := hsame.2 (HOf.out.1 h); cases this)
        have bz : (tz.toList == tw.toList) = same := by rw [Ltz.out, Ltw.out]; cases same with
          | true => exact beq_iff_eq.2 (HIf.out.2 (hsame.1 rfl))
          | false => exact beq_eq_false_iff_ne.2 (fun h => by have := hsame.2 (HIf.out.1 h); cases this)
        have bx : (tx.toList == ty.toList) = false := by rw [Ltx.out, Lty.out]; exact beq_eq_false_iff_ne.2 HNe.out
        have bx2 : (tx.toList != ty.toList) = true := by simp [bne, bx]
        have HSame := Lib.hid hsame
        clear hsame
        cases same with
        | true =>
          go_enter Tryz.func4, Tryz.ntmps4
          go_wp2_with fail
          refine (HM1 _ ((Kept.alloc Nob w _).then (Kept.alloc Nob _ _))).out.mono ?_
          rintro e w1 ⟨b1, rfl, hb1, hk1⟩
          obtain rfl := hb1.2 Ho1.out
          clear hb1
          have HB1 : Hid (Kept Nob ((w.alloc (.cells #[.int .i64 k1, .slice a1 l1.length cap1] 26)).alloc (.cells #[.int .i64 k2, .slice a2 l2.length cap2] 26)) w1) := Lib.hid hk1
          have HK1 : Hid (Kept Nob w w1) := Lib.hid (((Kept.alloc Nob w _).then (Kept.alloc Nob _ _)).then HB1.out)
          clear hk1
          obtain ⟨q1, q2⟩ := new2 HB1.out
          have o0 := cell_at q1 0 _ rfl
          have o1 := cell_at q1 1 _ rfl
          have p0 := cell_at q2 0 _ rfl
          have p1 := cell_at q2 1 _ rfl
          have gA := (Array.getElem?_eq_some_iff.1 q1).1
          have gB := (Array.getElem?_eq_some_iff.1 q2).1
          clear q1 q2
          go_wp2_with fail
          refine (HM2 _ HK1.out).out.mono ?_
          rintro e w2 ⟨b2, rfl, hb2, hk2⟩
          obtain rfl := hb2.2 Ho2.out
          clear hb2
          clear o0 o1 p0 p1 gA gB
          have HB2 : Hid (Kept Nob ((w.alloc (.cells #[.int .i64 k1, .slice a1 l1.length cap1] 26)).alloc (.cells #[.int .i64 k2, .slice a2 l2.length cap2] 26)) w2) := Lib.hid (HB1.out.then hk2)
          have HK2 : Hid (Kept Nob w w2) := Lib.hid (((Kept.alloc Nob w _).then (Kept.alloc Nob _ _)).then HB2.out)
          clear hk2
          obtain ⟨q1, q2⟩ := new2 HB2.out
          have o0 := cell_at q1 0 _ rfl
          have o1 := cell_at q1 1 _ rfl
          have p0 := cell_at q2 0 _ rfl
          have p1 := cell_at q2 1 _ rfl
          have gA := (Array.getElem?_eq_some_iff.1 q1).1
          have gB := (Array.getElem?_eq_some_iff.1 q2).1
          clear q1 q2
          go_wp2_with fail
          refine wp_region_held_drew (S := (fun w' => Kept Nob w2 w')) (by kernel_rfl) ?_ (fun hHeld => ?_)
          · first | assumption | exact Kept.drew _ _
          refine take_to (i := 0) (oi := _) (v := ?_) (some 27) rfl (by kernel_rfl) (by kernel_rfl) (by kernel_rfl) (by kernel_rfl) (fun _ _ _ h => h) (Or.inl ⟨by kernel_rfl, ?_⟩) (by assumption) ?_
          case refine_2 => (intro w hSw; (try dsimp only at hSw); (have c0 := (hSw.cell (cell_lt o0) (fun f => f)).trans o0; have c1 := (hSw.cell (cell_lt o1) (fun f => f)).trans o1; have c2 := (hSw.cell (cell_lt p0) (fun f => f)).trans p0; have c3 := (hSw.cell (cell_lt p1) (fun f => f)).trans p1); go_simp; try with_reducible rfl)
          try simp only [Act.put, List.setIfInBounds_toArray, List.set_cons_zero, List.set_cons_succ]
          refine take_to (i := 2) (oi := _) (v := ?_) (some 29) rfl (by kernel_rfl) (by kernel_rfl) (by kernel_rfl) (by kernel_rfl) (fun _ _ _ h => h) (Or.inl ⟨by kernel_rfl, ?_⟩) (by assumption) ?_
          case refine_2 => (intro w hSw; (try dsimp only at hSw); (have c0 := (hSw.cell (cell_lt o0) (fun f => f)).trans o0; have c1 := (hSw.cell (cell_lt o1) (fun f => f)).trans o1; have c2 := (hSw.cell (cell_lt p0) (fun f => f)).trans p0; have c3 := (hSw.cell (cell_lt p1) (fun f => f)).trans p1); go_simp; try with_reducible rfl)
          try simp only [Act.put, List.setIfInBounds_toArray, List.set_cons_zero, List.set_cons_succ]
          refine take_to (i := 5) (oi := _) (v := ?_) (some 32) rfl (by kernel_rfl) (by kernel_rfl) (by kernel_rfl) (by kernel_rfl) (fun _ _ _ h => h) (Or.inl ⟨by kernel_rfl, ?_⟩) (by assumption) ?_
          case refine_2 => (intro w hSw; (try dsimp only at hSw); (have c0 := (hSw.cell (cell_lt o0) (fun f => f)).trans o0; have c1 := (hSw.cell (cell_lt o1) (fun f => f)).trans o1; have c2 := (hSw.cell (cell_lt p0) (fun f => f)).trans p0; have c3 := (hSw.cell (cell_lt p1) (fun f => f)).trans p1); go_simp; try with_reducible rfl)
          try simp only [Act.put, List.setIfInBounds_toArray, List.set_cons_zero, List.set_cons_succ]
          refine take_to (i := 6) (oi := _) (v := ?_) (some 33) rfl (by kernel_rfl) (by kernel_rfl) (by kernel_rfl) (by kernel_rfl) (fun _ _ _ h => h) (Or.inl ⟨by kernel_rfl, ?_⟩) (by assumption) ?_
          case refine_2 => (intro w hSw; (try dsimp only at hSw); (have c0 := (hSw.cell (cell_lt o0) (fun f => f)).trans o0; have c1 := (hSw.cell (cell_lt o1) (fun f => f)).trans o1; have c2 := (hSw.cell (cell_lt p0) (fun f => f)).trans p0; have c3 := (hSw.cell (cell_lt p1) (fun f => f)).trans p1); go_simp; try with_reducible rfl)
          try simp only [Act.put, List.setIfInBounds_toArray, List.set_cons_zero, List.set_cons_succ]
          refine wpAnyH_ready (rs := [1]) (by kernel_rfl) (by simp) ?_
          refine AllReadyH.cons (o := _) rfl (fun K hK => ?_) AllReadyH.nil
          go_simp
          go_at_call 12
          refine (HO1 _ (HK2.out.then hHeld)).out.mono ?_
          rintro e w3 ⟨rfl, hk3⟩
          try go_wp2_with fail
          refine hK.out _ _ (hHeld.then hk3) (fun hHeld => ?_)
          clear hK K
          try simp only [Act.put, List.setIfInBounds_toArray, List.set_cons_zero, List.set_cons_succ]
          refine wpAnyH_ready (rs := [3]) (by kernel_rfl) (by simp) ?_
          refine AllReadyH.cons (o := _) rfl (fun K hK => ?_) AllReadyH.nil
          go_simp
          go_at_call 12
          refine (HO2 _ (HK2.out.then hHeld)).out.mono ?_
          rintro e w4 ⟨rfl, hk4⟩
          try go_wp2_with fail
          refine hK.out _ _ (hHeld.then hk4) (fun hHeld => ?_)
          clear hK K
          try simp only [Act.put, List.setIfInBounds_toArray, List.set_cons_zero, List.set_cons_succ]
          refine take_to (i := 4) (oi := _) (v := ?_) (some 31) rfl (by kernel_rfl) (by kernel_rfl) (by kernel_rfl) (by kernel_rfl) (fun _ _ _ h => h) (Or.inl ⟨by kernel_rfl, ?_⟩) (by assumption) ?_
          case refine_2 => (intro w hSw; (try dsimp only at hSw); go_simp; try with_reducible rfl)
          try simp only [Act.put, List.setIfInBounds_toArray, List.set_cons_zero, List.set_cons_succ]
          refine wpAnyH_ready (rs := [7]) (by kernel_rfl) (by simp) ?_
          refine AllReadyH.cons (o := _) rfl (fun K hK => ?_) AllReadyH.nil
          go_simp
          go_at_call 13
          refine (HSm _ (HK2.out.then hHeld)).out.mono ?_
          rintro e w5 ⟨b5, rfl, hb5, hk5⟩
          obtain rfl : b5 = true := hb5.2 (HSame.out.1 (by first | trivial | rfl))
          clear hb5
          try go_wp2_with fail
          refine hK.out _ _ (hHeld.then hk5) (fun hHeld => ?_)
          clear hK K
          try simp only [Act.put, List.setIfInBounds_toArray, List.set_cons_zero, List.set_cons_succ]
          refine take_to (i := 8) (oi := _) (v := ?_) (some 35) rfl (by kernel_rfl) (by kernel_rfl) (by kernel_rfl) (by kernel_rfl) (fun _ _ _ h => h) (Or.inl ⟨by kernel_rfl, ?_⟩) (by assumption) ?_
          case refine_2 => (intro w hSw; (try dsimp only at hSw); go_simp; try with_reducible rfl)
          try simp only [Act.put, List.setIfInBounds_toArray, List.set_cons_zero, List.set_cons_succ]
          refine wpAnyH_done (by kernel_rfl) ?_ _
          have HB5 : Hid (Kept Nob ((w.alloc (.cells #[.int .i64 k1, .slice a1 l1.length cap1] 26)).alloc (.cells #[.int .i64 k2, .slice a2 l2.length cap2] 26)) w5) := Lib.hid (HB2.out.then hHeld)
          have HK5 : Hid (Kept Nob w w5) := Lib.hid (((Kept.alloc Nob w _).then (Kept.alloc Nob _ _)).then HB5.out)
          clear o0 o1 p0 p1 gA gB
          obtain ⟨q1, q2⟩ := new2 HB5.out
          have o0 := cell_at q1 0 _ rfl
          have o1 := cell_at q1 1 _ rfl
          have p0 := cell_at q2 0 _ rfl
          have p1 := cell_at q2 1 _ rfl
          have gA := (Array.getElem?_eq_some_iff.1 q1).1
          have gB := (Array.getElem?_eq_some_iff.1 q2).1
          clear q1 q2
          have HE6 := Lib.hid (empty_new2 w5 (.cells #[.int .i64 0, .slice none 0 0, .slice ia ids.length ic, .slice none 0 0, .int .i64 0, .slice none 0 0, .bool false] 33) 3)
          have HR6 := Lib.hid (H3.out.kept ((HK5.out.then (Kept.alloc Nob w5 (.cells #[.int .i64 0, .slice none 0 0, .slice ia ids.length ic, .slice none 0 0, .int .i64 0, .slice none 0 0, .bool false] 33))).then (Kept.alloc Nob _ (.cells #[] 3))) (fun _ _ f => f))
          have hone : ∀ u ∈ ids.map (Value.int .i64), u.oneCell' = true := by intro u hu; simp only [List.mem_map] at hu; obtain ⟨n, _, rfl⟩ := hu; rfl
          have HOn := Lib.hid hone
          clear hone
          go_wp2_with (first
            | (at_builtin; refine wpList_append_pg rfl _ _ 22 rfl tIntsA (.slice (some ⟨w5.heap.size + 1, 0, none⟩) 0 0) _ [] (ids.map (.int .i64)) _ _ rfl rfl HE6.out HR6.out HOn.out (by simp; omega) ?_; intro b6 cap6 w6 ho6 hk6 hn6; simp only [List.nil_append, List.length_nil, List.length_map, Nat.zero_add] at ho6 hn6 ⊢; have HN6 := Lib.hid (Own.step2 HE6.out ho6 hk6); clear ho6 hk6 hn6)
            | (at_builtin; refine wpList_append1_pg rfl _ _ 22 rfl tIntsA (.slice b6 ids.length cap6) _ (.int .i64 more) _ ⟨w6.heap.size, 0, none⟩ 1 rfl rfl (HN6.out.1.alloc _) (by simp) rfl (Nat.le_refl _) rfl (by simp; omega) ?_; intro g7 cap7 w7 ho7 hk7; simp only [List.length_map] at ho7 ⊢; have HN7 := Lib.hid (Own.step3 (HN6.out.1.alloc _) (HN6.out.2.then (Kept.alloc Nob _ _)) ho7 hk7); have HK7 := Lib.hid ((Kept.alloc Nob w5 (.cells #[.int .i64 0, .slice none 0 0, .slice ia ids.length ic, .slice none 0 0, .int .i64 0, .slice none 0 0, .bool false] 33)).then HN7.out.2); have q0 := (HK7.out.cell (p := ⟨w.heap.size, 0, none⟩) gA (fun f => f)).trans o0; have q1 := (HK7.out.cell (p := ⟨w.heap.size, 1, none⟩) gA (fun f => f)).trans o1; have q2 := (HK7.out.cell (p := ⟨w.heap.size + 1, 0, none⟩) gB (fun f => f)).trans p0; have q3 := (HK7.out.cell (p := ⟨w.heap.size + 1, 1, none⟩) gB (fun f => f)).trans p1; have gC := Nat.lt_of_lt_of_le gA HK7.out.size; have gD := Nat.lt_of_lt_of_le gB HK7.out.size; clear ho7 hk7))
          have HKX : Hid (Kept Nob w7 (((w7.alloc (.cells #[.int .i64 0, .slice none 0 0, .slice (some ⟨g7, 0, none⟩) (ids.length + 1) cap7, .slice none 0 0, .int .i64 0, .slice none 0 0, .bool false] 33)).alloc (.cells #[.int .i64 0, .slice none 0 0, .slice none 0 0, .slice none 0 0, .int .i64 k1, .slice a1 l1.length cap1, .bool true] 33)).alloc (.cells #[.int .i64 0, .slice none 0 0, .slice none 0 0, .slice none 0 0, .int .i64 k2, .slice a2 l2.length cap2, .bool true] 33))) := Lib.hid (((Kept.alloc Nob w7 _).then (Kept.alloc Nob _ _)).then (Kept.alloc Nob _ _))
          have X1 := Lib.hid ((HKX.out.block w5.heap.size (by have h := HK7.out.size; have h2 := (HN7.out.2).size; simp at h2; omega) (fun f => f)).trans (((HN7.out.2).block w5.heap.size (by simp) (fun f => f)).trans (heap_alloc_new w5 _)))
          obtain ⟨y1, y2, y3⟩ := three_new w7 (.cells #[.int .i64 0, .slice none 0 0, .slice (some ⟨g7, 0, none⟩) (ids.length + 1) cap7, .slice none 0 0, .int .i64 0, .slice none 0 0, .bool false] 33) (.cells #[.int .i64 0, .slice none 0 0, .slice none 0 0, .slice none 0 0, .int .i64 k1, .slice a1 l1.length cap1, .bool true] 33) (.cells #[.int .i64 0, .slice none 0 0, .slice none 0 0, .slice none 0 0, .int .i64 k2, .slice a2 l2.length cap2, .bool true] 33)
          have X2 := Lib.hid y1
          have X3 := Lib.hid y2
          have X4 := Lib.hid y3
          have X5 := Lib.hid ((HKX.out.cell (p := ⟨w.heap.size, 0, none⟩) gC (fun f => f)).trans q0)
          have X6 := Lib.hid ((HKX.out.cell (p := ⟨w.heap.size, 1, none⟩) gC (fun f => f)).trans q1)
          have X7 := Lib.hid ((HKX.out.cell (p := ⟨w.heap.size + 1, 0, none⟩) gD (fun f => f)).trans q2)
          have X8 := Lib.hid ((HKX.out.cell (p := ⟨w.heap.size + 1, 1, none⟩) gD (fun f => f)).trans q3)
          have gE := Nat.lt_of_lt_of_le gC HKX.out.size
          have gF := Nat.lt_of_lt_of_le gD HKX.out.size
          have HKa := Lib.hid ((HK5.out.then HK7.out).then HKX.out)
          have HRy : Hid (Reads (((w7.alloc (.cells #[.int .i64 0, .slice none 0 0, .slice (some ⟨g7, 0, none⟩) (ids.length + 1) cap7, .slice none 0 0, .int .i64 0, .slice none 0 0, .bool false] 33)).alloc (.cells #[.int .i64 0, .slice none 0 0, .slice none 0 0, .slice none 0 0, .int .i64 k1, .slice a1 l1.length cap1, .bool true] 33)).alloc (.cells #[.int .i64 0, .slice none 0 0, .slice none 0 0, .slice none 0 0, .int .i64 k2, .slice a2 l2.length cap2, .bool true] 33)) (.slice (some ⟨g7, 0, none⟩) (ids.length + 1) cap7) ((ids ++ [more]).map (.int .i64)) (From (w5.heap.size + 1))) := Lib.hid (by have := (HN7.out.1.reads).kept HKX.out (fun _ _ f => f); simpa using this)
          clear y1 y2 y3 q0 q1 q2 q3 gC gD o0 o1 p0 p1 gA gB
          generalize (((w7.alloc (.cells #[.int .i64 0, .slice none 0 0, .slice (some ⟨g7, 0, none⟩) (ids.length + 1) cap7, .slice none 0 0, .int .i64 0, .slice none 0 0, .bool false] 33)).alloc (.cells #[.int .i64 0, .slice none 0 0, .slice none 0 0, .slice none 0 0, .int .i64 k1, .slice a1 l1.length cap1, .bool true] 33)).alloc (.cells #[.int .i64 0, .slice none 0 0, .slice none 0 0, .slice none 0 0, .int .i64 k2, .slice a2 l2.length cap2, .bool true] 33)) = wX at *
          refine wp_region_held_drew (S := (fun w' => Kept Nob wX w')) (by kernel_rfl) ?_ (fun hHeld => ?_)
          · first | assumption | exact Kept.drew _ _
          refine take_to (i := 0) (oi := _) (v := ?_) (some 49) rfl (by kernel_rfl) (by kernel_rfl) (by kernel_rfl) (by kernel_rfl) (fun _ _ _ h => h) (Or.inl ⟨by kernel_rfl, ?_⟩) (by assumption) ?_
          case refine_2 => (intro w hSw; (try dsimp only at hSw); (have q := (hSw.block _ (Array.getElem?_eq_some_iff.1 X1.out).1 (fun f => f)).trans X1.out; have e0 := cell_at q 0 _ rfl; have e1 := cell_at q 1 _ rfl; have e2 := cell_at q 2 _ rfl; have e3 := cell_at q 3 _ rfl; have e4 := cell_at q 4 _ rfl; have e5 := cell_at q 5 _ rfl; have e6 := cell_at q 6 _ rfl); go_simp; try with_reducible rfl)
          try simp only [Act.put, List.setIfInBounds_toArray, List.set_cons_zero, List.set_cons_succ]
          refine take_to (i := 2) (oi := _) (v := ?_) (some 51) rfl (by kernel_rfl) (by kernel_rfl) (by kernel_rfl) (by kernel_rfl) (fun _ _ _ h => h) (Or.inl ⟨by kernel_rfl, ?_⟩) (by assumption) ?_
          case refine_2 => (intro w hSw; (try dsimp only at hSw); (have q := (hSw.block _ (Array.getElem?_eq_some_iff.1 X2.out).1 (fun f => f)).trans X2.out; have e0 := cell_at q 0 _ rfl; have e1 := cell_at q 1 _ rfl; have e2 := cell_at q 2 _ rfl; have e3 := cell_at q 3 _ rfl; have e4 := cell_at q 4 _ rfl; have e5 := cell_at q 5 _ rfl; have e6 := cell_at q 6 _ rfl); go_simp; try with_reducible rfl)
          try simp only [Act.put, List.setIfInBounds_toArray, List.set_cons_zero, List.set_cons_succ]
          refine wpAnyH_ready (rs := [1]) (by kernel_rfl) (by simp) ?_
          refine AllReadyH.cons (o := _) rfl (fun K hK => ?_) AllReadyH.nil
          go_simp
          go_at_call 9
          refine (HAx _ (HKa.out.then hHeld)).out.mono ?_
          rintro e v1 ⟨rfl, hk1⟩
          try go_wp2_with fail
          refine hK.out _ _ (hHeld.then hk1) (fun hHeld => ?_)
          clear hK K
          try simp only [Act.put, List.setIfInBounds_toArray, List.set_cons_zero, List.set_cons_succ]
          refine wpAnyH_ready (rs := [3]) (by kernel_rfl) (by simp) ?_
          refine AllReadyH.cons (o := _) rfl (fun K hK => ?_) AllReadyH.nil
          go_simp
          go_at_call 9
          refine (HAy _ (HKa.out.then hHeld) _ _ (HRy.out.kept hHeld (fun _ _ f => f))).out.mono ?_
          rintro e v2 ⟨rfl, hk2⟩
          try go_wp2_with fail
          refine hK.out _ _ (hHeld.then hk2) (fun hHeld => ?_)
          clear hK K
          try simp only [Act.put, List.setIfInBounds_toArray, List.set_cons_zero, List.set_cons_succ]
          refine take_to (i := 4) (oi := _) (v := ?_) (some 53) rfl (by kernel_rfl) (by kernel_rfl) (by kernel_rfl) (by kernel_rfl) (fun _ _ _ h => h) (Or.inl ⟨by kernel_rfl, ?_⟩) (by assumption) ?_
          case refine_2 => (intro w hSw; (try dsimp only at hSw); go_simp; try with_reducible rfl)
          try simp only [Act.put, List.setIfInBounds_toArray, List.set_cons_zero, List.set_cons_succ]
          refine take_to (i := 5) (oi := _) (v := ?_) (some 54) rfl (by kernel_rfl) (by kernel_rfl) (by kernel_rfl) (by kernel_rfl) (fun _ _ _ h => h) (Or.inl ⟨by kernel_rfl, ?_⟩) (by assumption) ?_
          case refine_2 => (intro w hSw; (try dsimp only at hSw); go_simp; try with_reducible rfl)
          try simp only [Act.put, List.setIfInBounds_toArray, List.set_cons_zero, List.set_cons_succ]
          refine take_to (i := 6) (oi := _) (v := ?_) (some 55) rfl (by kernel_rfl) (by kernel_rfl) (by kernel_rfl) (by kernel_rfl) (fun _ _ _ h => h) (Or.inl ⟨by kernel_rfl, ?_⟩) (by assumption) ?_
          case refine_2 => (intro w hSw; (try dsimp only at hSw); (have q := (hSw.block _ (Array.getElem?_eq_some_iff.1 X3.out).1 (fun f => f)).trans X3.out; have e0 := cell_at q 0 _ rfl; have e1 := cell_at q 1 _ rfl; have e2 := cell_at q 2 _ rfl; have e3 := cell_at q 3 _ rfl; have e4 := cell_at q 4 _ rfl; have e5 := cell_at q 5 _ rfl; have e6 := cell_at q 6 _ rfl); go_simp; try with_reducible rfl)
          try simp only [Act.put, List.setIfInBounds_toArray, List.set_cons_zero, List.set_cons_succ]
          refine take_to (i := 8) (oi := _) (v := ?_) (some 57) rfl (by kernel_rfl) (by kernel_rfl) (by kernel_rfl) (by kernel_rfl) (fun _ _ _ h => h) (Or.inl ⟨by kernel_rfl, ?_⟩) (by assumption) ?_
          case refine_2 => (intro w hSw; (try dsimp only at hSw); (have q := (hSw.block _ (Array.getElem?_eq_some_iff.1 X4.out).1 (fun f => f)).trans X4.out; have e0 := cell_at q 0 _ rfl; have e1 := cell_at q 1 _ rfl; have e2 := cell_at q 2 _ rfl; have e3 := cell_at q 3 _ rfl; have e4 := cell_at q 4 _ rfl; have e5 := cell_at q 5 _ rfl; have e6 := cell_at q 6 _ rfl); go_simp; try with_reducible rfl)
          try simp only [Act.put, List.setIfInBounds_toArray, List.set_cons_zero, List.set_cons_succ]
          refine take_to (i := 11) (oi := _) (v := ?_) (some 60) rfl (by kernel_rfl) (by kernel_rfl) (by kernel_rfl) (by kernel_rfl) (fun _ _ _ h => h) (Or.inl ⟨by kernel_rfl, ?_⟩) (by assumption) ?_
          case refine_2 => (intro w hSw; (try dsimp only at hSw); (have e0 := (hSw.cell (cell_lt X5.out) (fun f => f)).trans X5.out; have e1 := (hSw.cell (cell_lt X6.out) (fun f => f)).trans X6.out); go_simp; try with_reducible rfl)
          try simp only [Act.put, List.setIfInBounds_toArray, List.set_cons_zero, List.set_cons_succ]
          refine take_to (i := 12) (oi := _) (v := ?_) (some 61) rfl (by kernel_rfl) (by kernel_rfl) (by kernel_rfl) (by kernel_rfl) (fun _ _ _ h => h) (Or.inl ⟨by kernel_rfl, ?_⟩) (by assumption) ?_
          case refine_2 => (intro w hSw; (try dsimp only at hSw); (have e0 := (hSw.cell (cell_lt X7.out) (fun f => f)).trans X7.out; have e1 := (hSw.cell (cell_lt X8.out) (fun f => f)).trans X8.out); go_simp; try with_reducible rfl)
          try simp only [Act.put, List.setIfInBounds_toArray, List.set_cons_zero, List.set_cons_succ]
          refine wpAnyH_ready (rs := [7]) (by kernel_rfl) (by simp) ?_
          refine AllReadyH.cons (o := _) rfl (fun K hK => ?_) AllReadyH.nil
          go_simp
          go_at_call 9
          refine (HAz _ (HKa.out.then hHeld)).out.mono ?_
          rintro e v3 ⟨rfl, hk3⟩
          try go_wp2_with fail
          refine hK.out _ _ (hHeld.then hk3) (fun hHeld => ?_)
          clear hK K
          try simp only [Act.put, List.setIfInBounds_toArray, List.set_cons_zero, List.set_cons_succ]
          refine wpAnyH_ready (rs := [9]) (by kernel_rfl) (by simp) ?_
          refine AllReadyH.cons (o := _) rfl (fun K hK => ?_) AllReadyH.nil
          go_simp
          go_at_call 9
          refine (HAw2 _ (HKa.out.then hHeld)).out.mono ?_
          rintro e v4 ⟨rfl, hk4⟩
          try go_wp2_with fail
          refine hK.out _ _ (hHeld.then hk4) (fun hHeld => ?_)
          clear hK K
          try simp only [Act.put, List.setIfInBounds_toArray, List.set_cons_zero, List.set_cons_succ]
          refine take_to (i := 10) (oi := _) (v := ?_) (some 59) rfl (by kernel_rfl) (by kernel_rfl) (by kernel_rfl) (by kernel_rfl) (fun _ _ _ h => h) (Or.inl ⟨by kernel_rfl, ?_⟩) (by assumption) ?_
          case refine_2 => (intro w hSw; (try dsimp only at hSw); go_simp; try with_reducible rfl)
          try simp only [Act.put, List.setIfInBounds_toArray, List.set_cons_zero, List.set_cons_succ]
          refine wpAnyH_ready (rs := [13]) (by kernel_rfl) (by simp) ?_
          refine AllReadyH.cons (o := _) rfl (fun K hK => ?_) AllReadyH.nil
          go_simp
          go_at_call 13
          refine (HSm _ (HKa.out.then hHeld)).out.mono ?_
          rintro e v5 ⟨b5, rfl, hb5, hk5⟩
          obtain rfl : b5 = true := hb5.2 (HSame.out.1 (by first | trivial | rfl))
          clear hb5
          try go_wp2_with fail
          refine hK.out _ _ (hHeld.then hk5) (fun hHeld => ?_)
          clear hK K
          try simp only [Act.put, List.setIfInBounds_toArray, List.set_cons_zero, List.set_cons_succ]
          refine take_to (i := 14) (oi := _) (v := ?_) (some 63) rfl (by kernel_rfl) (by kernel_rfl) (by kernel_rfl) (by kernel_rfl) (fun _ _ _ h => h) (Or.inl ⟨by kernel_rfl, ?_⟩) (by assumption) ?_
          case refine_2 => (intro w hSw; (try dsimp only at hSw); go_simp; try with_reducible rfl)
          try simp only [Act.put, List.setIfInBounds_toArray, List.set_cons_zero, List.set_cons_succ]
          refine take_to (i := 15) (oi := _) (v := ?_) (some 64) rfl (by kernel_rfl) (by kernel_rfl) (by kernel_rfl) (by kernel_rfl) (fun _ _ _ h => h) (Or.inl ⟨by kernel_rfl, ?_⟩) (by assumption) ?_
          case refine_2 => (intro w hSw; (try dsimp only at hSw); go_simp; try with_reducible rfl)
          try simp only [Act.put, List.setIfInBounds_toArray, List.set_cons_zero, List.set_cons_succ]
          refine take_to (i := 16) (oi := _) (v := ?_) (some 65) rfl (by kernel_rfl) (by kernel_rfl) (by kernel_rfl) (by kernel_rfl) (fun _ _ _ h => h) (Or.inl ⟨by kernel_rfl, ?_⟩) (by assumption) ?_
          case refine_2 => (intro w hSw; (try dsimp only at hSw); go_simp; try with_reducible rfl)
          try simp only [Act.put, List.setIfInBounds_toArray, List.set_cons_zero, List.set_cons_succ]
          refine take_to (i := 17) (oi := _) (v := ?_) (some 66) rfl (by kernel_rfl) (by kernel_rfl) (by kernel_rfl) (by kernel_rfl) (fun _ _ _ h => h) (Or.inl ⟨by kernel_rfl, ?_⟩) (by assumption) ?_
          case refine_2 => (intro w hSw; (try dsimp only at hSw); go_simp; try with_reducible rfl)
          try simp only [Act.put, List.setIfInBounds_toArray, List.set_cons_zero, List.set_cons_succ]
          refine wpAnyH_ready (rs := [18]) (by kernel_rfl) (by simp) ?_
          refine AllReadyH.cons (o := _) rfl (fun K hK => ?_) AllReadyH.nil
          go_simp
          go_at_call 9
          refine (HA0 _ (HKa.out.then hHeld)).out.mono ?_
          rintro e v6 ⟨rfl, hk6⟩
          try go_wp2_with fail
          refine hK.out _ _ (hHeld.then hk6) (fun hHeld => ?_)
          clear hK K
          try simp only [Act.put, List.setIfInBounds_toArray, List.set_cons_zero, List.set_cons_succ]
          refine take_to (i := 19) (oi := _) (v := ?_) (some 68) rfl (by kernel_rfl) (by kernel_rfl) (by kernel_rfl) (by kernel_rfl) (fun _ _ _ h => h) (Or.inl ⟨by kernel_rfl, ?_⟩) (by assumption) ?_
          case refine_2 => (intro w hSw; (try dsimp only at hSw); go_simp; try with_reducible rfl)
          try simp only [Act.put, List.setIfInBounds_toArray, List.set_cons_zero, List.set_cons_succ]
          refine take_to (i := 20) (oi := _) (v := ?_) (some 69) rfl (by kernel_rfl) (by kernel_rfl) (by kernel_rfl) (by kernel_rfl) (fun _ _ _ h => h) (Or.inl ⟨by kernel_rfl, ?_⟩) (by assumption) ?_
          case refine_2 => (intro w hSw; (try dsimp only at hSw); go_simp; try with_reducible rfl)
          try simp only [Act.put, List.setIfInBounds_toArray, List.set_cons_zero, List.set_cons_succ]
          refine take_to (i := 21) (oi := _) (v := ?_) (some 70) rfl (by kernel_rfl) (by kernel_rfl) (by kernel_rfl) (by kernel_rfl) (fun _ _ _ h => h) (Or.inl ⟨by kernel_rfl, ?_⟩) (by assumption) ?_
          case refine_2 => (intro w hSw; (try dsimp only at hSw); go_simp; try with_reducible rfl)
          try simp only [Act.put, List.setIfInBounds_toArray, List.set_cons_zero, List.set_cons_succ]
          refine wpAnyH_ready (rs := [22]) (by kernel_rfl) (by simp) ?_
          refine AllReadyH.cons (o := _) rfl (fun K hK => ?_) AllReadyH.nil
          go_simp
          go_at_call 8
          refine (HAw _ (HKa.out.then hHeld)).out.mono ?_
          rintro e v7 ⟨rfl, hk7⟩
          try go_wp2_with fail
          refine hK.out _ _ (hHeld.then hk7) (fun hHeld => ?_)
          clear hK K
          try simp only [Act.put, List.setIfInBounds_toArray, List.set_cons_zero, List.set_cons_succ]
          refine take_to (i := 23) (oi := _) (v := ?_) (some 72) rfl (by kernel_rfl) (by kernel_rfl) (by kernel_rfl) (by kernel_rfl) (fun _ _ _ h => h) (Or.inl ⟨by kernel_rfl, ?_⟩) (by assumption) ?_
          case refine_2 => (intro w hSw; (try dsimp only at hSw); go_simp; try with_reducible rfl)
          try simp only [Act.put, List.setIfInBounds_toArray, List.set_cons_zero, List.set_cons_succ]
          refine take_to (i := 24) (oi := _) (v := ?_) (some 8) rfl (by kernel_rfl) (by kernel_rfl) (by kernel_rfl) (by kernel_rfl) (fun _ _ _ h => h) (Or.inl ⟨by kernel_rfl, ?_⟩) (by assumption) ?_
          case refine_2 => (intro w hSw; (try dsimp only at hSw); go_simp; try with_reducible rfl)
          try simp only [Act.put, List.setIfInBounds_toArray, List.set_cons_zero, List.set_cons_succ]
          refine wpAnyH_done (by kernel_rfl) ?_ _
          have HKz := Lib.hid (HKa.out.then hHeld)
          go_wp2_with fail
          go_ret
          exact ⟨rfl, HKz.out⟩
        | false =>
          go_enter Tryz.func4, Tryz.ntmps4
          go_wp2_with fail
          refine (HM1 _ ((Kept.alloc Nob w _).then (Kept.alloc Nob _ _))).out.mono ?_
          rintro e w1 ⟨b1, rfl, hb1, hk1⟩
          obtain rfl := hb1.2 Ho1.out
          clear hb1
          have HB1 : Hid (Kept Nob ((w.alloc (.cells #[.int .i64 k1, .slice a1 l1.length cap1] 26)).alloc (.cells #[.int .i64 k2, .slice a2 l2.length cap2] 26)) w1) := Lib.hid hk1
          have HK1 : Hid (Kept Nob w w1) := Lib.hid (((Kept.alloc Nob w _).then (Kept.alloc Nob _ _)).then HB1.out)
          clear hk1
          obtain ⟨q1, q2⟩ := new2 HB1.out
          have o0 := cell_at q1 0 _ rfl
          have o1 := cell_at q1 1 _ rfl
          have p0 := cell_at q2 0 _ rfl
          have p1 := cell_at q2 1 _ rfl
          have gA := (Array.getElem?_eq_some_iff.1 q1).1
          have gB := (Array.getElem?_eq_some_iff.1 q2).1
          clear q1 q2
          go_wp2_with fail
          refine (HM2 _ HK1.out).out.mono ?_
          rintro e w2 ⟨b2, rfl, hb2, hk2⟩
          obtain rfl := hb2.2 Ho2.out
          clear hb2
          clear o0 o1 p0 p1 gA gB
          have HB2 : Hid (Kept Nob ((w.alloc (.cells #[.int .i64 k1, .slice a1 l1.length cap1] 26)).alloc (.cells #[.int .i64 k2, .slice a2 l2.length cap2] 26)) w2) := Lib.hid (HB1.out.then hk2)
          have HK2 : Hid (Kept Nob w w2) := Lib.hid (((Kept.alloc Nob w _).then (Kept.alloc Nob _ _)).then HB2.out)
          clear hk2
          obtain ⟨q1, q2⟩ := new2 HB2.out
          have o0 := cell_at q1 0 _ rfl
          have o1 := cell_at q1 1 _ rfl
          have p0 := cell_at q2 0 _ rfl
          have p1 := cell_at q2 1 _ rfl
          have gA := (Array.getElem?_eq_some_iff.1 q1).1
          have gB := (Array.getElem?_eq_some_iff.1 q2).1
          clear q1 q2
          go_wp2_with fail
          refine wp_region_held_drew (S := (fun w' => Kept Nob w2 w')) (by kernel_rfl) ?_ (fun hHeld => ?_)
          · first | assumption | exact Kept.drew _ _
          refine take_to (i := 0) (oi := _) (v := ?_) (some 27) rfl (by kernel_rfl) (by kernel_rfl) (by kernel_rfl) (by kernel_rfl) (fun _ _ _ h => h) (Or.inl ⟨by kernel_rfl, ?_⟩) (by assumption) ?_
          case refine_2 => (intro w hSw; (try dsimp only at hSw); (have c0 := (hSw.cell (cell_lt o0) (fun f => f)).trans o0; have c1 := (hSw.cell (cell_lt o1) (fun f => f)).trans o1; have c2 := (hSw.cell (cell_lt p0) (fun f => f)).trans p0; have c3 := (hSw.cell (cell_lt p1) (fun f => f)).trans p1); go_simp; try with_reducible rfl)
          try simp only [Act.put, List.setIfInBounds_toArray, List.set_cons_zero, List.set_cons_succ]
          refine take_to (i := 2) (oi := _) (v := ?_) (some 29) rfl (by kernel_rfl) (by kernel_rfl) (by kernel_rfl) (by kernel_rfl) (fun _ _ _ h => h) (Or.inl ⟨by kernel_rfl, ?_⟩) (by assumption) ?_
          case refine_2 => (intro w hSw; (try dsimp only at hSw); (have c0 := (hSw.cell (cell_lt o0) (fun f => f)).trans o0; have c1 := (hSw.cell (cell_lt o1) (fun f => f)).trans o1; have c2 := (hSw.cell (cell_lt p0) (fun f => f)).trans p0; have c3 := (hSw.cell (cell_lt p1) (fun f => f)).trans p1); go_simp; try with_reducible rfl)
          try simp only [Act.put, List.setIfInBounds_toArray, List.set_cons_zero, List.set_cons_succ]
          refine take_to (i := 5) (oi := _) (v := ?_) (some 32) rfl (by kernel_rfl) (by kernel_rfl) (by kernel_rfl) (by kernel_rfl) (fun _ _ _ h => h) (Or.inl ⟨by kernel_rfl, ?_⟩) (by assumption) ?_
          case refine_2 => (intro w hSw; (try dsimp only at hSw); (have c0 := (hSw.cell (cell_lt o0) (fun f => f)).trans o0; have c1 := (hSw.cell (cell_lt o1) (fun f => f)).trans o1; have c2 := (hSw.cell (cell_lt p0) (fun f => f)).trans p0; have c3 := (hSw.cell (cell_lt p1) (fun f => f)).trans p1); go_simp; try with_reducible rfl)
          try simp only [Act.put, List.setIfInBounds_toArray, List.set_cons_zero, List.set_cons_succ]
          refine take_to (i := 6) (oi := _) (v := ?_) (some 33) rfl (by kernel_rfl) (by kernel_rfl) (by kernel_rfl) (by kernel_rfl) (fun _ _ _ h => h) (Or.inl ⟨by kernel_rfl, ?_⟩) (by assumption) ?_
          case refine_2 => (intro w hSw; (try dsimp only at hSw); (have c0 := (hSw.cell (cell_lt o0) (fun f => f)).trans o0; have c1 := (hSw.cell (cell_lt o1) (fun f => f)).trans o1; have c2 := (hSw.cell (cell_lt p0) (fun f => f)).trans p0; have c3 := (hSw.cell (cell_lt p1) (fun f => f)).trans p1); go_simp; try with_reducible rfl)
          try simp only [Act.put, List.setIfInBounds_toArray, List.set_cons_zero, List.set_cons_succ]
          refine wpAnyH_ready (rs := [1]) (by kernel_rfl) (by simp) ?_
          refine AllReadyH.cons (o := _) rfl (fun K hK => ?_) AllReadyH.nil
          go_simp
          go_at_call 12
          refine (HO1 _ (HK2.out.then hHeld)).out.mono ?_
          rintro e w3 ⟨rfl, hk3⟩
          try go_wp2_with fail
          refine hK.out _ _ (hHeld.then hk3) (fun hHeld => ?_)
          clear hK K
          try simp only [Act.put, List.setIfInBounds_toArray, List.set_cons_zero, List.set_cons_succ]
          refine wpAnyH_ready (rs := [3]) (by kernel_rfl) (by simp) ?_
          refine AllReadyH.cons (o := _) rfl (fun K hK => ?_) AllReadyH.nil
          go_simp
          go_at_call 12
          refine (HO2 _ (HK2.out.then hHeld)).out.mono ?_
          rintro e w4 ⟨rfl, hk4⟩
          try go_wp2_with fail
          refine hK.out _ _ (hHeld.then hk4) (fun hHeld => ?_)
          clear hK K
          try simp only [Act.put, List.setIfInBounds_toArray, List.set_cons_zero, List.set_cons_succ]
          refine take_to (i := 4) (oi := _) (v := ?_) (some 31) rfl (by kernel_rfl) (by kernel_rfl) (by kernel_rfl) (by kernel_rfl) (fun _ _ _ h => h) (Or.inl ⟨by kernel_rfl, ?_⟩) (by assumption) ?_
          case refine_2 => (intro w hSw; (try dsimp only at hSw); go_simp; try with_reducible rfl)
          try simp only [Act.put, List.setIfInBounds_toArray, List.set_cons_zero, List.set_cons_succ]
          refine wpAnyH_ready (rs := [7]) (by kernel_rfl) (by simp) ?_
          refine AllReadyH.cons (o := _) rfl (fun K hK => ?_) AllReadyH.nil
          go_simp
          go_at_call 13
          refine (HSm _ (HK2.out.then hHeld)).out.mono ?_
          rintro e w5 ⟨b5, rfl, hb5, hk5⟩
          obtain rfl : b5 = false := by cases b5 with | false => rfl | true => exact absurd (HSame.out.2 (hb5.1 rfl)) (by simp)
          clear hb5
          try go_wp2_with fail
          refine hK.out _ _ (hHeld.then hk5) (fun hHeld => ?_)
          clear hK K
          try simp only [Act.put, List.setIfInBounds_toArray, List.set_cons_zero, List.set_cons_succ]
          refine take_to (i := 8) (oi := _) (v := ?_) (some 35) rfl (by kernel_rfl) (by kernel_rfl) (by kernel_rfl) (by kernel_rfl) (fun _ _ _ h => h) (Or.inl ⟨by kernel_rfl, ?_⟩) (by assumption) ?_
          case refine_2 => (intro w hSw; (try dsimp only at hSw); go_simp; try with_reducible rfl)
          try simp only [Act.put, List.setIfInBounds_toArray, List.set_cons_zero, List.set_cons_succ]
          refine wpAnyH_done (by kernel_rfl) ?_ _
          have HB5 : Hid (Kept Nob ((w.alloc (.cells #[.int .i64 k1, .slice a1 l1.length cap1] 26)).alloc (.cells #[.int .i64 k2, .slice a2 l2.length cap2] 26)) w5) := Lib.hid (HB2.out.then hHeld)
          have HK5 : Hid (Kept Nob w w5) := Lib.hid (((Kept.alloc Nob w _).then (Kept.alloc Nob _ _)).then HB5.out)
          clear o0 o1 p0 p1 gA gB
          obtain ⟨q1, q2⟩ := new2 HB5.out
          have o0 := cell_at q1 0 _ rfl
          have o1 := cell_at q1 1 _ rfl
          have p0 := cell_at q2 0 _ rfl
          have p1 := cell_at q2 1 _ rfl
          have gA := (Array.getElem?_eq_some_iff.1 q1).1
          have gB := (Array.getElem?_eq_some_iff.1 q2).1
          clear q1 q2
          have HE6 := Lib.hid (empty_new2 w5 (.cells #[.int .i64 0, .slice none 0 0, .slice ia ids.length ic, .slice none 0 0, .int .i64 0, .slice none 0 0, .bool false] 33) 3)
          have HR6 := Lib.hid (H3.out.kept ((HK5.out.then (Kept.alloc Nob w5 (.cells #[.int .i64 0, .slice none 0 0, .slice ia ids.length ic, .slice none 0 0, .int .i64 0, .slice none 0 0, .bool false] 33))).then (Kept.alloc Nob _ (.cells #[] 3))) (fun _ _ f => f))
          have hone : ∀ u ∈ ids.map (Value.int .i64), u.oneCell' = true := by intro u hu; simp only [List.mem_map] at hu; obtain ⟨n, _, rfl⟩ := hu; rfl
          have HOn := Lib.hid hone
          clear hone
          go_wp2_with (first
            | (at_builtin; refine wpList_append_pg rfl _ _ 22 rfl tIntsA (.slice (some ⟨w5.heap.size + 1, 0, none⟩) 0 0) _ [] (ids.map (.int .i64)) _ _ rfl rfl HE6.out HR6.out HOn.out (by simp; omega) ?_; intro b6 cap6 w6 ho6 hk6 hn6; simp only [List.nil_append, List.length_nil, List.length_map, Nat.zero_add] at ho6 hn6 ⊢; have HN6 := Lib.hid (Own.step2 HE6.out ho6 hk6); clear ho6 hk6 hn6)
            | (at_builtin; refine wpList_append1_pg rfl _ _ 22 rfl tIntsA (.slice b6 ids.length cap6) _ (.int .i64 more) _ ⟨w6.heap.size, 0, none⟩ 1 rfl rfl (HN6.out.1.alloc _) (by simp) rfl (Nat.le_refl _) rfl (by simp; omega) ?_; intro g7 cap7 w7 ho7 hk7; simp only [List.length_map] at ho7 ⊢; have HN7 := Lib.hid (Own.step3 (HN6.out.1.alloc _) (HN6.out.2.then (Kept.alloc Nob _ _)) ho7 hk7); have HK7 := Lib.hid ((Kept.alloc Nob w5 (.cells #[.int .i64 0, .slice none 0 0, .slice ia ids.length ic, .slice none 0 0, .int .i64 0, .slice none 0 0, .bool false] 33)).then HN7.out.2); have q0 := (HK7.out.cell (p := ⟨w.heap.size, 0, none⟩) gA (fun f => f)).trans o0; have q1 := (HK7.out.cell (p := ⟨w.heap.size, 1, none⟩) gA (fun f => f)).trans o1; have q2 := (HK7.out.cell (p := ⟨w.heap.size + 1, 0, none⟩) gB (fun f => f)).trans p0; have q3 := (HK7.out.cell (p := ⟨w.heap.size + 1, 1, none⟩) gB (fun f => f)).trans p1; have gC := Nat.lt_of_lt_of_le gA HK7.out.size; have gD := Nat.lt_of_lt_of_le gB HK7.out.size; clear ho7 hk7))
          have HKX : Hid (Kept Nob w7 (((w7.alloc (.cells #[.int .i64 0, .slice none 0 0, .slice (some ⟨g7, 0, none⟩) (ids.length + 1) cap7, .slice none 0 0, .int .i64 0, .slice none 0 0, .bool false] 33)).alloc (.cells #[.int .i64 0, .slice none 0 0, .slice none 0 0, .slice none 0 0, .int .i64 k1, .slice a1 l1.length cap1, .bool true] 33)).alloc (.cells #[.int .i64 0, .slice none 0 0, .slice none 0 0, .slice none 0 0, .int .i64 k2, .slice a2 l2.length cap2, .bool true] 33))) := Lib.hid (((Kept.alloc Nob w7 _).then (Kept.alloc Nob _ _)).then (Kept.alloc Nob _ _))
          have X1 := Lib.hid ((HKX.out.block w5.heap.size (by have h := HK7.out.size; have h2 := (HN7.out.2).size; simp at h2; omega) (fun f => f)).trans (((HN7.out.2).block w5.heap.size (by simp) (fun f => f)).trans (heap_alloc_new w5 _)))
          obtain ⟨y1, y2, y3⟩ := three_new w7 (.cells #[.int .i64 0, .slice none 0 0, .slice (some ⟨g7, 0, none⟩) (ids.length + 1) cap7, .slice none 0 0, .int .i64 0, .slice none 0 0, .bool false] 33) (.cells #[.int .i64 0, .slice none 0 0, .slice none 0 0, .slice none 0 0, .int .i64 k1, .slice a1 l1.length cap1, .bool true] 33) (.cells #[.int .i64 0, .slice none 0 0, .slice none 0 0, .slice none 0 0, .int .i64 k2, .slice a2 l2.length cap2, .bool true] 33)
          have X2 := Lib.hid y1
          have X3 := Lib.hid y2
          have X4 := Lib.hid y3
          have X5 := Lib.hid ((HKX.out.cell (p := ⟨w.heap.size, 0, none⟩) gC (fun f => f)).trans q0)
          have X6 := Lib.hid ((HKX.out.cell (p := ⟨w.heap.size, 1, none⟩) gC (fun f => f)).trans q1)
          have X7 := Lib.hid ((HKX.out.cell (p := ⟨w.heap.size + 1, 0, none⟩) gD (fun f => f)).trans q2)
          have X8 := Lib.hid ((HKX.out.cell (p := ⟨w.heap.size + 1, 1, none⟩) gD (fun f => f)).trans q3)
          have gE := Nat.lt_of_lt_of_le gC HKX.out.size
          have gF := Nat.lt_of_lt_of_le gD HKX.out.size
          have HKa := Lib.hid ((HK5.out.then HK7.out).then HKX.out)
          have HRy : Hid (Reads (((w7.alloc (.cells #[.int .i64 0, .slice none 0 0, .slice (some ⟨g7, 0, none⟩) (ids.length + 1) cap7, .slice none 0 0, .int .i64 0, .slice none 0 0, .bool false] 33)).alloc (.cells #[.int .i64 0, .slice none 0 0, .slice none 0 0, .slice none 0 0, .int .i64 k1, .slice a1 l1.length cap1, .bool true] 33)).alloc (.cells #[.int .i64 0, .slice none 0 0, .slice none 0 0, .slice none 0 0, .int .i64 k2, .slice a2 l2.length cap2, .bool true] 33)) (.slice (some ⟨g7, 0, none⟩) (ids.length + 1) cap7) ((ids ++ [more]).map (.int .i64)) (From (w5.heap.size + 1))) := Lib.hid (by have := (HN7.out.1.reads).kept HKX.out (fun _ _ f => f); simpa using this)
          clear y1 y2 y3 q0 q1 q2 q3 gC gD o0 o1 p0 p1 gA gB
          generalize (((w7.alloc (.cells #[.int .i64 0, .slice none 0 0, .slice (some ⟨g7, 0, none⟩) (ids.length + 1) cap7, .slice none 0 0, .int .i64 0, .slice none 0 0, .bool false] 33)).alloc (.cells #[.int .i64 0, .slice none 0 0, .slice none 0 0, .slice none 0 0, .int .i64 k1, .slice a1 l1.length cap1, .bool true] 33)).alloc (.cells #[.int .i64 0, .slice none 0 0, .slice none 0 0, .slice none 0 0, .int .i64 k2, .slice a2 l2.length cap2, .bool true] 33)) = wX at *
          refine wp_region_held_drew (S := (fun w' => Kept Nob wX w')) (by kernel_rfl) ?_ (fun hHeld => ?_)
          · first | assumption | exact Kept.drew _ _
          refine take_to (i := 0) (oi := _) (v := ?_) (some 49) rfl (by kernel_rfl) (by kernel_rfl) (by kernel_rfl) (by kernel_rfl) (fun _ _ _ h => h) (Or.inl ⟨by kernel_rfl, ?_⟩) (by assumption) ?_
          case refine_2 => (intro w hSw; (try dsimp only at hSw); (have q := (hSw.block _ (Array.getElem?_eq_some_iff.1 X1.out).1 (fun f => f)).trans X1.out; have e0 := cell_at q 0 _ rfl; have e1 := cell_at q 1 _ rfl; have e2 := cell_at q 2 _ rfl; have e3 := cell_at q 3 _ rfl; have e4 := cell_at q 4 _ rfl; have e5 := cell_at q 5 _ rfl; have e6 := cell_at q 6 _ rfl); go_simp; try with_reducible rfl)
          try simp only [Act.put, List.setIfInBounds_toArray, List.set_cons_zero, List.set_cons_succ]
          refine take_to (i := 2) (oi := _) (v := ?_) (some 51) rfl (by kernel_rfl) (by kernel_rfl) (by kernel_rfl) (by kernel_rfl) (fun _ _ _ h => h) (Or.inl ⟨by kernel_rfl, ?_⟩) (by assumption) ?_
          case refine_2 => (intro w hSw; (try dsimp only at hSw); (have q := (hSw.block _ (Array.getElem?_eq_some_iff.1 X2.out).1 (fun f => f)).trans X2.out; have e0 := cell_at q 0 _ rfl; have e1 := cell_at q 1 _ rfl; have e2 := cell_at q 2 _ rfl; have e3 := cell_at q 3 _ rfl; have e4 := cell_at q 4 _ rfl; have e5 := cell_at q 5 _ rfl; have e6 := cell_at q 6 _ rfl); go_simp; try with_reducible rfl)
          try simp only [Act.put, List.setIfInBounds_toArray, List.set_cons_zero, List.set_cons_succ]
          refine wpAnyH_ready (rs := [1]) (by kernel_rfl) (by simp) ?_
          refine AllReadyH.cons (o := _) rfl (fun K hK => ?_) AllReadyH.nil
          go_simp
          go_at_call 9
          refine (HAx _ (HKa.out.then hHeld)).out.mono ?_
          rintro e v1 ⟨rfl, hk1⟩
          try go_wp2_with fail
          refine hK.out _ _ (hHeld.then hk1) (fun hHeld => ?_)
          clear hK K
          try simp only [Act.put, List.setIfInBounds_toArray, List.set_cons_zero, List.set_cons_succ]
          refine wpAnyH_ready (rs := [3]) (by kernel_rfl) (by simp) ?_
          refine AllReadyH.cons (o := _) rfl (fun K hK => ?_) AllReadyH.nil
          go_simp
          go_at_call 9
          refine (HAy _ (HKa.out.then hHeld) _ _ (HRy.out.kept hHeld (fun _ _ f => f))).out.mono ?_
          rintro e v2 ⟨rfl, hk2⟩
          try go_wp2_with fail
          refine hK.out _ _ (hHeld.then hk2) (fun hHeld => ?_)
          clear hK K
          try simp only [Act.put, List.setIfInBounds_toArray, List.set_cons_zero, List.set_cons_succ]
          refine take_to (i := 4) (oi := _) (v := ?_) (some 53) rfl (by kernel_rfl) (by kernel_rfl) (by kernel_rfl) (by kernel_rfl) (fun _ _ _ h => h) (Or.inl ⟨by kernel_rfl, ?_⟩) (by assumption) ?_
          case refine_2 => (intro w hSw; (try dsimp only at hSw); go_simp; try with_reducible rfl)
          try simp only [Act.put, List.setIfInBounds_toArray, List.set_cons_zero, List.set_cons_succ]
          refine take_to (i := 5) (oi := _) (v := ?_) (some 54) rfl (by kernel_rfl) (by kernel_rfl) (by kernel_rfl) (by kernel_rfl) (fun _ _ _ h => h) (Or.inl ⟨by kernel_rfl, ?_⟩) (by assumption) ?_
          case refine_2 => (intro w hSw; (try dsimp only at hSw); go_simp; try with_reducible rfl)
          try simp only [Act.put, List.setIfInBounds_toArray, List.set_cons_zero, List.set_cons_succ]
          refine take_to (i := 6) (oi := _) (v := ?_) (some 55) rfl (by kernel_rfl) (by kernel_rfl) (by kernel_rfl) (by kernel_rfl) (fun _ _ _ h => h) (Or.inl ⟨by kernel_rfl, ?_⟩) (by assumption) ?_
          case refine_2 => (intro w hSw; (try dsimp only at hSw); (have q := (hSw.block _ (Array.getElem?_eq_some_iff.1 X3.out).1 (fun f => f)).trans X3.out; have e0 := cell_at q 0 _ rfl; have e1 := cell_at q 1 _ rfl; have e2 := cell_at q 2 _ rfl; have e3 := cell_at q 3 _ rfl; have e4 := cell_at q 4 _ rfl; have e5 := cell_at q 5 _ rfl; have e6 := cell_at q 6 _ rfl); go_simp; try with_reducible rfl)
          try simp only [Act.put, List.setIfInBounds_toArray, List.set_cons_zero, List.set_cons_succ]
          refine take_to (i := 8) (oi := _) (v := ?_) (some 57) rfl (by kernel_rfl) (by kernel_rfl) (by kernel_rfl) (by kernel_rfl) (fun _ _ _ h => h) (Or.inl ⟨by kernel_rfl, ?_⟩) (by assumption) ?_
          case refine_2 => (intro w hSw; (try dsimp only at hSw); (have q := (hSw.block _ (Array.getElem?_eq_some_iff.1 X4.out).1 (fun f => f)).trans X4.out; have e0 := cell_at q 0 _ rfl; have e1 := cell_at q 1 _ rfl; have e2 := cell_at q 2 _ rfl; have e3 := cell_at q 3 _ rfl; have e4 := cell_at q 4 _ rfl; have e5 := cell_at q 5 _ rfl; have e6 := cell_at q 6 _ rfl); go_simp; try with_reducible rfl)
          try simp only [Act.put, List.setIfInBounds_toArray, List.set_cons_zero, List.set_cons_succ]
          refine take_to (i := 11) (oi := _) (v := ?_) (some 60) rfl (by kernel_rfl) (by kernel_rfl) (by kernel_rfl) (by kernel_rfl) (fun _ _ _ h => h) (Or.inl ⟨by kernel_rfl, ?_⟩) (by assumption) ?_
          case refine_2 => (intro w hSw; (try dsimp only at hSw); (have e0 := (hSw.cell (cell_lt X5.out) (fun f => f)).trans X5.out; have e1 := (hSw.cell (cell_lt X6.out) (fun f => f)).trans X6.out); go_simp; try with_reducible rfl)
          try simp only [Act.put, List.setIfInBounds_toArray, List.set_cons_zero, List.set_cons_succ]
          refine take_to (i := 12) (oi := _) (v := ?_) (some 61) rfl (by kernel_rfl) (by kernel_rfl) (by kernel_rfl) (by kernel_rfl) (fun _ _ _ h => h) (Or.inl ⟨by kernel_rfl, ?_⟩) (by assumption) ?_
          case refine_2 => (intro w hSw; (try dsimp only at hSw); (have e0 := (hSw.cell (cell_lt X7.out) (fun f => f)).trans X7.out; have e1 := (hSw.cell (cell_lt X8.out) (fun f => f)).trans X8.out); go_simp; try with_reducible rfl)
          try simp only [Act.put, List.setIfInBounds_toArray, List.set_cons_zero, List.set_cons_succ]
          refine wpAnyH_ready (rs := [7]) (by kernel_rfl) (by simp) ?_
          refine AllReadyH.cons (o := _) rfl (fun K hK => ?_) AllReadyH.nil
          go_simp
          go_at_call 9
          refine (HAz _ (HKa.out.then hHeld)).out.mono ?_
          rintro e v3 ⟨rfl, hk3⟩
          try go_wp2_with fail
          refine hK.out _ _ (hHeld.then hk3) (fun hHeld => ?_)
          clear hK K
          try simp only [Act.put, List.setIfInBounds_toArray, List.set_cons_zero, List.set_cons_succ]
          refine wpAnyH_ready (rs := [9]) (by kernel_rfl) (by simp) ?_
          refine AllReadyH.cons (o := _) rfl (fun K hK => ?_) AllReadyH.nil
          go_simp
          go_at_call 9
          refine (HAw2 _ (HKa.out.then hHeld)).out.mono ?_
          rintro e v4 ⟨rfl, hk4⟩
          try go_wp2_with fail
          refine hK.out _ _ (hHeld.then hk4) (fun hHeld => ?_)
          clear hK K
          try simp only [Act.put, List.setIfInBounds_toArray, List.set_cons_zero, List.set_cons_succ]
          refine take_to (i := 10) (oi := _) (v := ?_) (some 59) rfl (by kernel_rfl) (by kernel_rfl) (by kernel_rfl) (by kernel_rfl) (fun _ _ _ h => h) (Or.inl ⟨by kernel_rfl, ?_⟩) (by assumption) ?_
          case refine_2 => (intro w hSw; (try dsimp only at hSw); go_simp; try with_reducible rfl)
          try simp only [Act.put, List.setIfInBounds_toArray, List.set_cons_zero, List.set_cons_succ]
          refine wpAnyH_ready (rs := [13]) (by kernel_rfl) (by simp) ?_
          refine AllReadyH.cons (o := _) rfl (fun K hK => ?_) AllReadyH.nil
          go_simp
          go_at_call 13
          refine (HSm _ (HKa.out.then hHeld)).out.mono ?_
          rintro e v5 ⟨b5, rfl, hb5, hk5⟩
          obtain rfl : b5 = false := by cases b5 with | false => rfl | true => exact absurd (HSame.out.2 (hb5.1 rfl)) (by simp)
          clear hb5
          try go_wp2_with fail
          refine hK.out _ _ (hHeld.then hk5) (fun hHeld => ?_)
          clear hK K
          try simp only [Act.put, List.setIfInBounds_toArray, List.set_cons_zero, List.set_cons_succ]
          refine take_to (i := 14) (oi := _) (v := ?_) (some 63) rfl (by kernel_rfl) (by kernel_rfl) (by kernel_rfl) (by kernel_rfl) (fun _ _ _ h => h) (Or.inl ⟨by kernel_rfl, ?_⟩) (by assumption) ?_
          case refine_2 => (intro w hSw; (try dsimp only at hSw); go_simp; try with_reducible rfl)
          try simp only [Act.put, List.setIfInBounds_toArray, List.set_cons_zero, List.set_cons_succ]
          refine take_to (i := 15) (oi := _) (v := ?_) (some 64) rfl (by kernel_rfl) (by kernel_rfl) (by kernel_rfl) (by kernel_rfl) (fun _ _ _ h => h) (Or.inl ⟨by kernel_rfl, ?_⟩) (by assumption) ?_
          case refine_2 => (intro w hSw; (try dsimp only at hSw); go_simp; try with_reducible rfl)
          try simp only [Act.put, List.setIfInBounds_toArray, List.set_cons_zero, List.set_cons_succ]
          refine take_to (i := 16) (oi := _) (v := ?_) (some 65) rfl (by kernel_rfl) (by kernel_rfl) (by kernel_rfl) (by kernel_rfl) (fun _ _ _ h => h) (Or.inl ⟨by kernel_rfl, ?_⟩) (by assumption) ?_
          case refine_2 => (intro w hSw; (try dsimp only at hSw); go_simp; try with_reducible rfl)
          try simp only [Act.put, List.setIfInBounds_toArray, List.set_cons_zero, List.set_cons_succ]
          refine take_to (i := 17) (oi := _) (v := ?_) (some 66) rfl (by kernel_rfl) (by kernel_rfl) (by kernel_rfl) (by kernel_rfl) (fun _ _ _ h => h) (Or.inl ⟨by kernel_rfl, ?_⟩) (by assumption) ?_
          case refine_2 => (intro w hSw; (try dsimp only at hSw); go_simp; try with_reducible rfl)
          try simp only [Act.put, List.setIfInBounds_toArray, List.set_cons_zero, List.set_cons_succ]
          refine wpAnyH_ready (rs := [18]) (by kernel_rfl) (by simp) ?_
          refine AllReadyH.cons (o := _) rfl (fun K hK => ?_) AllReadyH.nil
          go_simp
          go_at_call 9
          refine (HA0 _ (HKa.out.then hHeld)).out.mono ?_
          rintro e v6 ⟨rfl, hk6⟩
          try go_wp2_with fail
          refine hK.out _ _ (hHeld.then hk6) (fun hHeld => ?_)
          clear hK K
          try simp only [Act.put, List.setIfInBounds_toArray, List.set_cons_zero, List.set_cons_succ]
          refine take_to (i := 19) (oi := _) (v := ?_) (some 68) rfl (by kernel_rfl) (by kernel_rfl) (by kernel_rfl) (by kernel_rfl) (fun _ _ _ h => h) (Or.inl ⟨by kernel_rfl, ?_⟩) (by assumption) ?_
          case refine_2 => (intro w hSw; (try dsimp only at hSw); go_simp; try with_reducible rfl)
          try simp only [Act.put, List.setIfInBounds_toArray, List.set_cons_zero, List.set_cons_succ]
          refine take_to (i := 20) (oi := _) (v := ?_) (some 69) rfl (by kernel_rfl) (by kernel_rfl) (by kernel_rfl) (by kernel_rfl) (fun _ _ _ h => h) (Or.inl ⟨by kernel_rfl, ?_⟩) (by assumption) ?_
          case refine_2 => (intro w hSw; (try dsimp only at hSw); go_simp; try with_reducible rfl)
          try simp only [Act.put, List.setIfInBounds_toArray, List.set_cons_zero, List.set_cons_succ]
          refine take_to (i := 21) (oi := _) (v := ?_) (some 70) rfl (by kernel_rfl) (by kernel_rfl) (by kernel_rfl) (by kernel_rfl) (fun _ _ _ h => h) (Or.inl ⟨by kernel_rfl, ?_⟩) (by assumption) ?_
          case refine_2 => (intro w hSw; (try dsimp only at hSw); go_simp; try with_reducible rfl)
          try simp only [Act.put, List.setIfInBounds_toArray, List.set_cons_zero, List.set_cons_succ]
          refine wpAnyH_ready (rs := [22]) (by kernel_rfl) (by simp) ?_
          refine AllReadyH.cons (o := _) rfl (fun K hK => ?_) AllReadyH.nil
          go_simp
          go_at_call 8
          refine (HAw _ (HKa.out.then hHeld)).out.mono ?_
          rintro e v7 ⟨rfl, hk7⟩
          try go_wp2_with fail
          refine hK.out _ _ (hHeld.then hk7) (fun hHeld => ?_)
          clear hK K
          try simp only [Act.put, List.setIfInBounds_toArray, List.set_cons_zero, List.set_cons_succ]
          refine take_to (i := 23) (oi := _) (v := ?_) (some 72) rfl (by kernel_rfl) (by kernel_rfl) (by kernel_rfl) (by kernel_rfl) (fun _ _ _ h => h) (Or.inl ⟨by kernel_rfl, ?_⟩) (by assumption) ?_
          case refine_2 => (intro w hSw; (try dsimp only at hSw); go_simp; try with_reducible rfl)
          try simp only [Act.put, List.setIfInBounds_toArray, List.set_cons_zero, List.set_cons_succ]
          refine take_to (i := 24) (oi := _) (v := ?_) (some 8) rfl (by kernel_rfl) (by kernel_rfl) (by kernel_rfl) (by kernel_rfl) (fun _ _ _ h => h) (Or.inl ⟨by kernel_rfl, ?_⟩) (by assumption) ?_
          case refine_2 => (intro w hSw; (try dsimp only at hSw); go_simp; try with_reducible rfl)
          try simp only [Act.put, List.setIfInBounds_toArray, List.set_cons_zero, List.set_cons_succ]
          refine wpAnyH_done (by kernel_rfl) ?_ _
          have HKz := Lib.hid (HKa.out.then hHeld)
          go_wp2_with fail
          go_ret
          exact ⟨rfl, HKz.out⟩
end Go.Proofs.YthjiobmglebmdaaGreatDoor
