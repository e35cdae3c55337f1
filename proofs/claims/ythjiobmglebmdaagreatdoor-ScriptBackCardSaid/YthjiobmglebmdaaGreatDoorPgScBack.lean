/- ScriptBack: what is written is read as it was; a little more, and it is none. Printed by gen_back.py. -/
import Derived.Test.YthjiobmglebmdaaGreatDoorPgScAwake
import Derived.Test.YthjiobmglebmdaaGreatDoorPgRound
import Derived.Test.YthjiobmglebmdaaGreatDoorPgErr
namespace Go.Proofs.YthjiobmglebmdaaGreatDoor
open Go.RowKit
open Go.Proofs.YthjiobmglebmdaaGreatDoor.Geo Go.Proofs.YthjiobmglebmdaaGreatDoor.Txt

theorem bytes_list (s : ByteArray) {l : List UInt8} (h : (⟨l.toArray⟩ : ByteArray) = s) : s.toList = l := by rw [← h, ByteArray.toList_eq]
theorem bytes_size (s : ByteArray) {l : List UInt8} (h : (⟨l.toArray⟩ : ByteArray) = s) : s.size = l.length := by rw [← h]; show l.toArray.size = _; simp
/-- the six texts, as values -/
theorem six_at {ob : Ob} {sv : ByteArray} (h : (⟨(obText ob).toArray⟩ : ByteArray) = sv) (i : Nat) (hi : i < 6) :
    ∃ t : List UInt8, t ∈ [32 :: obText ob, obText ob ++ [32], obText ob ++ [32, 48], 43 :: obText ob, obText ob ++ [44], obText ob ++ [120]] ∧
      #[Value.string (⟨#[32]⟩ ++ sv), .string (sv ++ ⟨#[32]⟩), .string (sv ++ ⟨#[32, 48]⟩), .string (⟨#[43]⟩ ++ sv), .string (sv ++ ⟨#[44]⟩), .string (sv ++ ⟨#[120]⟩)][i]? = some (strV t) := by
  have e1 : ∀ d : List UInt8, (⟨d.toArray⟩ : ByteArray) ++ sv = ⟨(d ++ obText ob).toArray⟩ := fun d => by rw [← h]; exact strV_append d (obText ob)
  have e2 : ∀ d : List UInt8, sv ++ (⟨d.toArray⟩ : ByteArray) = ⟨(obText ob ++ d).toArray⟩ := fun d => by rw [← h]; exact strV_append (obText ob) d
  rcases i with _ | _ | _ | _ | _ | _ | i
  · exact ⟨32 :: obText ob, by simp, by show some (Value.string ((⟨[32].toArray⟩ : ByteArray) ++ sv)) = _; rw [e1]; rfl⟩
  · exact ⟨obText ob ++ [32], by simp, by show some (Value.string (sv ++ (⟨[32].toArray⟩ : ByteArray))) = _; rw [e2]; rfl⟩
  · exact ⟨obText ob ++ [32, 48], by simp, by show some (Value.string (sv ++ (⟨[32, 48].toArray⟩ : ByteArray))) = _; rw [e2]; rfl⟩
  · exact ⟨43 :: obText ob, by simp, by show some (Value.string ((⟨[43].toArray⟩ : ByteArray) ++ sv)) = _; rw [e1]; rfl⟩
  · exact ⟨obText ob ++ [44], by simp, by show some (Value.string (sv ++ (⟨[44].toArray⟩ : ByteArray))) = _; rw [e2]; rfl⟩
  · exact ⟨obText ob ++ [120], by simp, by show some (Value.string (sv ++ (⟨[120].toArray⟩ : ByteArray))) = _; rw [e2]; rfl⟩
  · omega
theorem six_len {ob : Ob} {t : List UInt8} (h : t ∈ [32 :: obText ob, obText ob ++ [32], obText ob ++ [32, 48], 43 :: obText ob, obText ob ++ [44], obText ob ++ [120]]) : t.length ≤ 400000 := by
  have := obText_len ob
  simp only [List.mem_cons, List.not_mem_nil, or_false] at h
  rcases h with rfl | rfl | rfl | rfl | rfl | rfl <;> simp <;> omega
theorem qrOf_ring (k : Int) {p : List Pt} (h : p.length ≤ 64) : (qrOf k p).ring.length ≤ 64 := by
  unfold qrOf
  by_cases h4 : k = 4
  · rw [if_pos h4]; exact h
  · rw [if_neg h4]
    by_cases h3 : k = 3
    · rw [if_pos h3]; simp
    · rw [if_neg h3]; simp
set_option maxRecDepth 100000 in
set_option maxHeartbeats 16000000 in
theorem back_any (w : World) (k : Int) (v : Value) (l : List Pt) (F : Nat → Prop) (h : PtsAt w v l F) (kq x1 y1 x2 y2 : Int) (v2 : Value) (l2 : List Pt) (F2 : Nat → Prop) (h2 : PtsAt w v2 l2 F2) (how : Int) (hE : Env w) :
    Calls Tryz.prog 5 #[.agg #[.int .i64 k, v], .agg #[.int .i64 kq, .int .i64 x1, .int .i64 y1, .int .i64 x2, .int .i64 y2, v2], .int .i64 how] w (RetTrue w) := by
  obtain ⟨a, cap, rfl⟩ := h.shape
  obtain ⟨a2, cap2, rfl⟩ := h2.shape
  have HE := Lib.hid hE
  have HAw := fun (wx : World) (kx : Kept Nob w wx) => Lib.hid (sc_awake wx (hE.kept kx))
  have HP := Lib.hid h
  have HP2 := Lib.hid h2
  clear h h2 hE
  by_cases hl : 70 < l.length
  · have hl' : (70 : Int) < (l.length : Int) := by omega
    clear hl
    go_enter Tryz.func5, Tryz.ntmps5
    go_wp2_with fail
    refine (HAw _ ((Kept.alloc Nob w _).then (Kept.alloc Nob _ _))).out.mono ?_
    rintro e w1 ⟨rfl, hk1⟩
    have HK := Lib.hid (((Kept.alloc Nob w _).then (Kept.alloc Nob _ _)).then hk1)
    clear hk1
    go_wp2_with fail
    go_ret
    exact ⟨rfl, HK.out⟩
  by_cases hl2 : 70 < l2.length
  · have hl' : ¬ (70 : Int) < (l.length : Int) := by omega
    have hl2' : (70 : Int) < (l2.length : Int) := by omega
    clear hl hl2
    go_enter Tryz.func5, Tryz.ntmps5
    go_wp2_with fail
    refine (HAw _ ((Kept.alloc Nob w _).then (Kept.alloc Nob _ _))).out.mono ?_
    rintro e w1 ⟨rfl, hk1⟩
    have HK := Lib.hid (((Kept.alloc Nob w _).then (Kept.alloc Nob _ _)).then hk1)
    clear hk1
    go_wp2_with fail
    go_ret
    exact ⟨rfl, HK.out⟩
  have HOb := fun (wx : World) (kx : Kept Nob w wx) => Lib.hid (script_Object wx k _ l F (HP.out.nob kx) (by omega) (HE.out.kept kx))
  have HQr := fun (wx : World) (kx : Kept Nob w wx) => Lib.hid (script_Query wx kq x1 y1 x2 y2 _ l2 F2 (HP2.out.nob kx) (by omega) (HE.out.kept kx))
  have HCk := fun (wx : World) (kx : Kept Nob w wx) => Lib.hid (ref_Check wx k _ l F (HP.out.nob kx) (by omega))
  have HCq := fun (wx : World) (kx : Kept Nob w wx) => Lib.hid (ref_CheckQuery wx kq x1 y1 x2 y2 _ l2 F2 (HP2.out.nob kx) (by omega))
  have HSm := fun (wx : World) (kx : Kept Nob w wx) (u : Value) (G : Nat → Prop) (hu : PtsAt wx u l G) => Lib.hid (ref_Same wx k k u _ l l G F hu (HP.out.nob kx) (by omega) (by omega))
  have HPy := fun (wx : World) (kx : Kept Nob w wx) (ho : ObOk ⟨k, l⟩) => Lib.hid (parse_yes wx ⟨k, l⟩ ho (HE.out.kept kx))
  have HPn := fun (wx : World) (kx : Kept Nob w wx) (t : List UInt8) (ht : t.length ≤ 400000) (hn : ∀ ob, ObOk ob → obText ob ≠ t) => Lib.hid (parse_no wx t ht hn (HE.out.kept kx))
  have HRd := fun (wx : World) => Lib.hid (round_any wx how 6 (by omega) (by omega))
  obtain ⟨rn, hrn, hr6⟩ : ∃ rn : Nat, how % 6 = rn ∧ rn < 6 := ⟨(how % 6).toNat, by omega, by omega⟩
  rw [hrn] at HRd
  clear hrn
  obtain ⟨sv, hsv⟩ : ∃ u, (⟨(obText ⟨k, l⟩).toArray⟩ : ByteArray) = u := ⟨_, rfl⟩
  obtain ⟨tv, htv⟩ : ∃ u, (⟨(qrText ⟨kq, ⟨(x1, y1), (x2, y2)⟩, l2⟩).toArray⟩ : ByteArray) = u := ⟨_, rfl⟩
  have HSl := Lib.hid (bytes_list sv hsv)
  have HTl := Lib.hid (bytes_list tv htv)
  have ssv : sv.size ≤ 5000 := by rw [bytes_size sv hsv]; exact obText_len _
  have HSix := Lib.hid (fun i hi => six_at hsv i hi)
  simp only [strV, hsv] at HOb HPy
  simp only [strV, htv] at HQr
  have HTv := Lib.hid htv
  clear hsv htv
  have hl' : ¬ (70 : Int) < (l.length : Int) := by omega
  have hl2' : ¬ (70 : Int) < (l2.length : Int) := by omega
  go_enter Tryz.func5, Tryz.ntmps5
  go_wp2_with fail
  refine (HOb _ ((Kept.alloc Nob w _).then (Kept.alloc Nob _ _))).out.mono ?_
  rintro e w1 ⟨rfl, hk1⟩
  have HB1 : Hid (Kept Nob ((w.alloc (.cells #[.int .i64 k, .slice a l.length cap] 26)).alloc (.cells #[.int .i64 kq, .int .i64 x1, .int .i64 y1, .int .i64 x2, .int .i64 y2, .slice a2 l2.length cap2] 46)) w1) := Lib.hid hk1
  have HK1 : Hid (Kept Nob w w1) := Lib.hid (((Kept.alloc Nob w _).then (Kept.alloc Nob _ _)).then HB1.out)
  clear hk1
  obtain ⟨q1, q2⟩ := new2 HB1.out
  have o0 := cell_at q1 0 _ rfl
  have o1 := cell_at q1 1 _ rfl
  have p0 := cell_at q2 0 _ rfl
  have p1 := cell_at q2 1 _ rfl
  have p2 := cell_at q2 2 _ rfl
  have p3 := cell_at q2 3 _ rfl
  have p4 := cell_at q2 4 _ rfl
  have p5 := cell_at q2 5 _ rfl
  have gA := (Array.getElem?_eq_some_iff.1 q1).1
  have gB := (Array.getElem?_eq_some_iff.1 q2).1
  clear q1 q2
  go_wp2_with fail
  refine (HQr _ HK1.out).out.mono ?_
  rintro e w2 ⟨rfl, hk2⟩
  clear o0 o1 p0 p1 p2 p3 p4 p5 gA gB
  have HB2 : Hid (Kept Nob ((w.alloc (.cells #[.int .i64 k, .slice a l.length cap] 26)).alloc (.cells #[.int .i64 kq, .int .i64 x1, .int .i64 y1, .int .i64 x2, .int .i64 y2, .slice a2 l2.length cap2] 46)) w2) := Lib.hid (HB1.out.then hk2)
  have HK2 : Hid (Kept Nob w w2) := Lib.hid (((Kept.alloc Nob w _).then (Kept.alloc Nob _ _)).then HB2.out)
  clear hk2
  obtain ⟨q1, q2⟩ := new2 HB2.out
  have o0 := cell_at q1 0 _ rfl
  have o1 := cell_at q1 1 _ rfl
  have p0 := cell_at q2 0 _ rfl
  have p1 := cell_at q2 1 _ rfl
  have p2 := cell_at q2 2 _ rfl
  have p3 := cell_at q2 3 _ rfl
  have p4 := cell_at q2 4 _ rfl
  have p5 := cell_at q2 5 _ rfl
  have gA := (Array.getElem?_eq_some_iff.1 q1).1
  have gB := (Array.getElem?_eq_some_iff.1 q2).1
  clear q1 q2
  by_cases ho : ObOk ⟨k, l⟩
  case pos =>
    by_cases hq : QrOk ⟨kq, ⟨(x1, y1), (x2, y2)⟩, l2⟩
    case pos =>
      have se : (sv.toList == []) = false := by rw [HSl.out]; exact beq_eq_false_iff_ne.2 (obText_ne ho)
      have sn : (sv.toList != []) = true := by simp [bne, se]
      have te : (tv.toList == []) = false := by rw [HTl.out]; exact beq_eq_false_iff_ne.2 (qrText_ne hq)
      have tn : (tv.toList != []) = true := by simp [bne, te]
      go_wp2_with fail
      refine (HCk _ HK2.out).out.mono ?_
      rintro e w3 ⟨c3, rfl, hc3, hk3⟩
      obtain rfl := hc3.2 ho
      clear hc3
      clear o0 o1 p0 p1 p2 p3 p4 p5 gA gB
      have HB3 : Hid (Kept Nob ((w.alloc (.cells #[.int .i64 k, .slice a l.length cap] 26)).alloc (.cells #[.int .i64 kq, .int .i64 x1, .int .i64 y1, .int .i64 x2, .int .i64 y2, .slice a2 l2.length cap2] 46)) w3) := Lib.hid (HB2.out.then hk3)
      have HK3 : Hid (Kept Nob w w3) := Lib.hid (((Kept.alloc Nob w _).then (Kept.alloc Nob _ _)).then HB3.out)
      clear hk3
      obtain ⟨q1, q2⟩ := new2 HB3.out
      have o0 := cell_at q1 0 _ rfl
      have o1 := cell_at q1 1 _ rfl
      have p0 := cell_at q2 0 _ rfl
      have p1 := cell_at q2 1 _ rfl
      have p2 := cell_at q2 2 _ rfl
      have p3 := cell_at q2 3 _ rfl
      have p4 := cell_at q2 4 _ rfl
      have p5 := cell_at q2 5 _ rfl
      have gA := (Array.getElem?_eq_some_iff.1 q1).1
      have gB := (Array.getElem?_eq_some_iff.1 q2).1
      clear q1 q2
      go_wp2_with fail
      refine (HCq _ HK3.out).out.mono ?_
      rintro e w4 ⟨c4, rfl, hc4, hk4⟩
      obtain rfl := hc4.2 hq
      clear hc4
      clear o0 o1 p0 p1 p2 p3 p4 p5 gA gB
      have HB4 : Hid (Kept Nob ((w.alloc (.cells #[.int .i64 k, .slice a l.length cap] 26)).alloc (.cells #[.int .i64 kq, .int .i64 x1, .int .i64 y1, .int .i64 x2, .int .i64 y2, .slice a2 l2.length cap2] 46)) w4) := Lib.hid (HB3.out.then hk4)
      have HK4 : Hid (Kept Nob w w4) := Lib.hid (((Kept.alloc Nob w _).then (Kept.alloc Nob _ _)).then HB4.out)
      clear hk4
      obtain ⟨q1, q2⟩ := new2 HB4.out
      have o0 := cell_at q1 0 _ rfl
      have o1 := cell_at q1 1 _ rfl
      have p0 := cell_at q2 0 _ rfl
      have p1 := cell_at q2 1 _ rfl
      have p2 := cell_at q2 2 _ rfl
      have p3 := cell_at q2 3 _ rfl
      have p4 := cell_at q2 4 _ rfl
      have p5 := cell_at q2 5 _ rfl
      have gA := (Array.getElem?_eq_some_iff.1 q1).1
      have gB := (Array.getElem?_eq_some_iff.1 q2).1
      clear q1 q2
      have HPq := fun (wx : World) (kx : Kept Nob w wx) => Lib.hid (parseQ_yes wx ⟨kq, ⟨(x1, y1), (x2, y2)⟩, l2⟩ hq (HE.out.kept kx))
      have hqo := qrOf_ok hq
      obtain ⟨q', hq'⟩ : ∃ q', qrOf kq (qrPts ⟨kq, ⟨(x1, y1), (x2, y2)⟩, l2⟩) = q' := ⟨_, rfl⟩
      simp only [hq'] at HPq hqo
      have hring : q'.ring.length ≤ 64 := by
        rw [← hq']
        exact qrOf_ring kq (qrPts_len hq).2
      obtain ⟨k', ⟨⟨a1', b1'⟩, ⟨a2', b2'⟩⟩, r'⟩ := q'
      simp only [qrVal, qrV] at HPq hqo hring
      obtain ⟨-, hqt, hkk⟩ := hqo
      obtain rfl := hkk.symm
      have HQt := Lib.hid hqt
      simp only [strV, HTv.out] at HPq
      clear hqt hq'
      have Ho := Lib.hid ho
      clear ho hq
      go_wp2_with fail
      refine (HPy _ HK4.out Ho.out).out.mono ?_
      rintro e w5 ⟨u5, rfl, hp5, hk5⟩
      obtain ⟨ua, uc, rfl⟩ := hp5.shape
      have HP5 := Lib.hid hp5
      clear hp5
      clear o0 o1 p0 p1 p2 p3 p4 p5 gA gB
      have HB5 : Hid (Kept Nob ((w.alloc (.cells #[.int .i64 k, .slice a l.length cap] 26)).alloc (.cells #[.int .i64 kq, .int .i64 x1, .int .i64 y1, .int .i64 x2, .int .i64 y2, .slice a2 l2.length cap2] 46)) w5) := Lib.hid (HB4.out.then hk5)
      have HK5 : Hid (Kept Nob w w5) := Lib.hid (((Kept.alloc Nob w _).then (Kept.alloc Nob _ _)).then HB5.out)
      clear hk5
      obtain ⟨q1, q2⟩ := new2 HB5.out
      have o0 := cell_at q1 0 _ rfl
      have o1 := cell_at q1 1 _ rfl
      have p0 := cell_at q2 0 _ rfl
      have p1 := cell_at q2 1 _ rfl
      have p2 := cell_at q2 2 _ rfl
      have p3 := cell_at q2 3 _ rfl
      have p4 := cell_at q2 4 _ rfl
      have p5 := cell_at q2 5 _ rfl
      have gA := (Array.getElem?_eq_some_iff.1 q1).1
      have gB := (Array.getElem?_eq_some_iff.1 q2).1
      clear q1 q2
      go_wp2_with fail
      refine (HSm _ (HK5.out.then (Kept.alloc Nob w5 _)) _ _ (HP5.out.nob (Kept.alloc Nob w5 _))).out.mono ?_
      rintro e w6 ⟨b6, rfl, hb6, hk6⟩
      obtain rfl := hb6.2 (by first | trivial | rfl)
      clear hb6
      clear o0 o1 p0 p1 p2 p3 p4 p5 gA gB
      have HB6 : Hid (Kept Nob ((w.alloc (.cells #[.int .i64 k, .slice a l.length cap] 26)).alloc (.cells #[.int .i64 kq, .int .i64 x1, .int .i64 y1, .int .i64 x2, .int .i64 y2, .slice a2 l2.length cap2] 46)) w6) := Lib.hid (HB5.out.then ((Kept.alloc Nob w5 _).then hk6))
      have HK6 : Hid (Kept Nob w w6) := Lib.hid (((Kept.alloc Nob w _).then (Kept.alloc Nob _ _)).then HB6.out)
      clear hk6
      obtain ⟨q1, q2⟩ := new2 HB6.out
      have o0 := cell_at q1 0 _ rfl
      have o1 := cell_at q1 1 _ rfl
      have p0 := cell_at q2 0 _ rfl
      have p1 := cell_at q2 1 _ rfl
      have p2 := cell_at q2 2 _ rfl
      have p3 := cell_at q2 3 _ rfl
      have p4 := cell_at q2 4 _ rfl
      have p5 := cell_at q2 5 _ rfl
      have gA := (Array.getElem?_eq_some_iff.1 q1).1
      have gB := (Array.getElem?_eq_some_iff.1 q2).1
      clear q1 q2
      go_wp2_with fail
      refine (HRd _).out.mono ?_
      rintro e w7 ⟨rfl, rfl⟩
      obtain ⟨t6, hmem, hcell⟩ := HSix.out rn hr6
      have cs : (w6.alloc (.cells #[.string (⟨#[32]⟩ ++ sv), .string (sv ++ ⟨#[32]⟩), .string (sv ++ ⟨#[32, 48]⟩), .string (⟨#[43]⟩ ++ sv), .string (sv ++ ⟨#[44]⟩), .string (sv ++ ⟨#[120]⟩)] 9)).cell? ⟨w6.heap.size, rn, none⟩ = some (strV t6) := cell_at (heap_alloc_new w6 _) rn _ hcell
      have HK7 := Lib.hid (HK6.out.then (Kept.alloc Nob w6 (.cells #[.string (⟨#[32]⟩ ++ sv), .string (sv ++ ⟨#[32]⟩), .string (sv ++ ⟨#[32, 48]⟩), .string (⟨#[43]⟩ ++ sv), .string (sv ++ ⟨#[44]⟩), .string (sv ++ ⟨#[120]⟩)] 9)))
      have HPn7 := HPn _ HK7.out t6 (six_len hmem) (no_six Ho.out t6 hmem)
      obtain ⟨xv, hxv⟩ : ∃ u, (⟨t6.toArray⟩ : ByteArray) = u := ⟨_, rfl⟩
      unfold strV at cs HPn7
      rw [hxv] at cs HPn7
      clear hmem hcell hxv
      go_wp2_with fail
      refine (HPn7).out.mono ?_
      rintro e w8 ⟨u8, rfl, hf8, hk8⟩
      obtain ⟨g8, rfl, -, hg8, hb8⟩ := hf8
      have HB8f := Lib.hid hb8
      clear hb8 cs
      clear o0 o1 p0 p1 p2 p3 p4 p5 gA gB
      have HB8 : Hid (Kept Nob ((w.alloc (.cells #[.int .i64 k, .slice a l.length cap] 26)).alloc (.cells #[.int .i64 kq, .int .i64 x1, .int .i64 y1, .int .i64 x2, .int .i64 y2, .slice a2 l2.length cap2] 46)) w8) := Lib.hid (HB6.out.then ((Kept.alloc Nob w6 _).then hk8))
      have HK8 : Hid (Kept Nob w w8) := Lib.hid (((Kept.alloc Nob w _).then (Kept.alloc Nob _ _)).then HB8.out)
      clear hk8
      obtain ⟨q1, q2⟩ := new2 HB8.out
      have o0 := cell_at q1 0 _ rfl
      have o1 := cell_at q1 1 _ rfl
      have p0 := cell_at q2 0 _ rfl
      have p1 := cell_at q2 1 _ rfl
      have p2 := cell_at q2 2 _ rfl
      have p3 := cell_at q2 3 _ rfl
      have p4 := cell_at q2 4 _ rfl
      have p5 := cell_at q2 5 _ rfl
      have gA := (Array.getElem?_eq_some_iff.1 q1).1
      have gB := (Array.getElem?_eq_some_iff.1 q2).1
      clear q1 q2
      have HCd := Lib.hid (code_fault (w8.alloc (.cells #[.int .i64 0, .slice none 0 0] 26)) g8 10 (cell_at (((Kept.alloc Nob w8 _).block g8 hg8 (fun f => f)).trans HB8f.out) 2 _ rfl) (by omega) (by omega))
      go_wp2_with fail
      refine HCd.out.mono ?_
      rintro e w9 ⟨rfl, rfl⟩
      have HKc := Lib.hid (HK8.out.then (Kept.alloc Nob w8 (.cells #[.int .i64 0, .slice none 0 0] 26)))
      have HBc := Lib.hid (HB8.out.then (Kept.alloc Nob w8 (.cells #[.int .i64 0, .slice none 0 0] 26)))
      go_wp2_with fail
      refine (HPq _ HKc.out).out.mono ?_
      rintro e w10 ⟨u10, rfl, hp10, hk10⟩
      obtain ⟨ra, rc, rfl⟩ := hp10.shape
      have HP10 := Lib.hid hp10
      clear hp10 o0 o1 p0 p1 p2 p3 p4 p5 gA gB
      have HB10 : Hid (Kept Nob ((w.alloc (.cells #[.int .i64 k, .slice a l.length cap] 26)).alloc (.cells #[.int .i64 kq, .int .i64 x1, .int .i64 y1, .int .i64 x2, .int .i64 y2, .slice a2 l2.length cap2] 46)) w10) := Lib.hid (HBc.out.then hk10)
      have HK10 : Hid (Kept Nob w w10) := Lib.hid (((Kept.alloc Nob w _).then (Kept.alloc Nob _ _)).then HB10.out)
      clear hk10
      obtain ⟨q1, q2⟩ := new2 HB10.out
      have o0 := cell_at q1 0 _ rfl
      have o1 := cell_at q1 1 _ rfl
      have p0 := cell_at q2 0 _ rfl
      have p1 := cell_at q2 1 _ rfl
      have p2 := cell_at q2 2 _ rfl
      have p3 := cell_at q2 3 _ rfl
      have p4 := cell_at q2 4 _ rfl
      have p5 := cell_at q2 5 _ rfl
      have gA := (Array.getElem?_eq_some_iff.1 q1).1
      have gB := (Array.getElem?_eq_some_iff.1 q2).1
      clear q1 q2
      have HQ2 := Lib.hid (script_Query (w10.alloc (.cells #[.int .i64 kq, .int .i64 a1', .int .i64 b1', .int .i64 a2', .int .i64 b2', .slice ra r'.length rc] 46)) kq a1' b1' a2' b2' _ r' _ (HP10.out.nob (Kept.alloc Nob w10 _)) (by omega) (HE.out.kept (HK10.out.then (Kept.alloc Nob w10 _))))
      simp only [strV, HQt.out, HTv.out] at HQ2
      go_wp2_with fail
      refine (HQ2).out.mono ?_
      rintro e w11 ⟨rfl, hk11⟩
      have QB := new1 hk11
      have q0 := cell_at QB 0 _ rfl
      clear QB
      clear o0 o1 p0 p1 p2 p3 p4 p5 gA gB
      have HB11 : Hid (Kept Nob ((w.alloc (.cells #[.int .i64 k, .slice a l.length cap] 26)).alloc (.cells #[.int .i64 kq, .int .i64 x1, .int .i64 y1, .int .i64 x2, .int .i64 y2, .slice a2 l2.length cap2] 46)) w11) := Lib.hid (HB10.out.then ((Kept.alloc Nob w10 _).then hk11))
      have HK11 : Hid (Kept Nob w w11) := Lib.hid (((Kept.alloc Nob w _).then (Kept.alloc Nob _ _)).then HB11.out)
      clear hk11
      obtain ⟨q1, q2⟩ := new2 HB11.out
      have o0 := cell_at q1 0 _ rfl
      have o1 := cell_at q1 1 _ rfl
      have p0 := cell_at q2 0 _ rfl
      have p1 := cell_at q2 1 _ rfl
      have p2 := cell_at q2 2 _ rfl
      have p3 := cell_at q2 3 _ rfl
      have p4 := cell_at q2 4 _ rfl
      have p5 := cell_at q2 5 _ rfl
      have gA := (Array.getElem?_eq_some_iff.1 q1).1
      have gB := (Array.getElem?_eq_some_iff.1 q2).1
      clear q1 q2
      go_wp2_with fail
      refine (HAw _ HK11.out).out.mono ?_
      rintro e w12 ⟨rfl, hk12⟩
      have HKe := Lib.hid (HK11.out.then hk12)
      clear hk12
      go_wp2_with fail
      go_ret
      exact ⟨rfl, HKe.out⟩
    case neg =>
      have se : (sv.toList == []) = false := by rw [HSl.out]; exact beq_eq_false_iff_ne.2 (obText_ne ho)
      have sn : (sv.toList != []) = true := by simp [bne, se]
      have te : (tv.toList == []) = true := by rw [HTl.out, (qrText_no hq)]; rfl
      have tn : (tv.toList != []) = false := by simp [bne, te]
      go_wp2_with fail
      refine (HCk _ HK2.out).out.mono ?_
      rintro e w3 ⟨c3, rfl, hc3, hk3⟩
      obtain rfl := hc3.2 ho
      clear hc3
      clear o0 o1 p0 p1 p2 p3 p4 p5 gA gB
      have HB3 : Hid (Kept Nob ((w.alloc (.cells #[.int .i64 k, .slice a l.length cap] 26)).alloc (.cells #[.int .i64 kq, .int .i64 x1, .int .i64 y1, .int .i64 x2, .int .i64 y2, .slice a2 l2.length cap2] 46)) w3) := Lib.hid (HB2.out.then hk3)
      have HK3 : Hid (Kept Nob w w3) := Lib.hid (((Kept.alloc Nob w _).then (Kept.alloc Nob _ _)).then HB3.out)
      clear hk3
      obtain ⟨q1, q2⟩ := new2 HB3.out
      have o0 := cell_at q1 0 _ rfl
      have o1 := cell_at q1 1 _ rfl
      have p0 := cell_at q2 0 _ rfl
      have p1 := cell_at q2 1 _ rfl
      have p2 := cell_at q2 2 _ rfl
      have p3 := cell_at q2 3 _ rfl
      have p4 := cell_at q2 4 _ rfl
      have p5 := cell_at q2 5 _ rfl
      have gA := (Array.getElem?_eq_some_iff.1 q1).1
      have gB := (Array.getElem?_eq_some_iff.1 q2).1
      clear q1 q2
      go_wp2_with fail
      refine (HCq _ HK3.out).out.mono ?_
      rintro e w4 ⟨c4, rfl, hc4, hk4⟩
      have hcb4 : (c4 == 0) = false := beq_eq_false_iff_ne.2 (fun e => hq (hc4.1 e))
      clear hc4
      clear o0 o1 p0 p1 p2 p3 p4 p5 gA gB
      have HB4 : Hid (Kept Nob ((w.alloc (.cells #[.int .i64 k, .slice a l.length cap] 26)).alloc (.cells #[.int .i64 kq, .int .i64 x1, .int .i64 y1, .int .i64 x2, .int .i64 y2, .slice a2 l2.length cap2] 46)) w4) := Lib.hid (HB3.out.then hk4)
      have HK4 : Hid (Kept Nob w w4) := Lib.hid (((Kept.alloc Nob w _).then (Kept.alloc Nob _ _)).then HB4.out)
      clear hk4
      obtain ⟨q1, q2⟩ := new2 HB4.out
      have o0 := cell_at q1 0 _ rfl
      have o1 := cell_at q1 1 _ rfl
      have p0 := cell_at q2 0 _ rfl
      have p1 := cell_at q2 1 _ rfl
      have p2 := cell_at q2 2 _ rfl
      have p3 := cell_at q2 3 _ rfl
      have p4 := cell_at q2 4 _ rfl
      have p5 := cell_at q2 5 _ rfl
      have gA := (Array.getElem?_eq_some_iff.1 q1).1
      have gB := (Array.getElem?_eq_some_iff.1 q2).1
      clear q1 q2
      have Ho := Lib.hid ho
      clear ho hq
      go_wp2_with fail
      refine (HPy _ HK4.out Ho.out).out.mono ?_
      rintro e w5 ⟨u5, rfl, hp5, hk5⟩
      obtain ⟨ua, uc, rfl⟩ := hp5.shape
      have HP5 := Lib.hid hp5
      clear hp5
      clear o0 o1 p0 p1 p2 p3 p4 p5 gA gB
      have HB5 : Hid (Kept Nob ((w.alloc (.cells #[.int .i64 k, .slice a l.length cap] 26)).alloc (.cells #[.int .i64 kq, .int .i64 x1, .int .i64 y1, .int .i64 x2, .int .i64 y2, .slice a2 l2.length cap2] 46)) w5) := Lib.hid (HB4.out.then hk5)
      have HK5 : Hid (Kept Nob w w5) := Lib.hid (((Kept.alloc Nob w _).then (Kept.alloc Nob _ _)).then HB5.out)
      clear hk5
      obtain ⟨q1, q2⟩ := new2 HB5.out
      have o0 := cell_at q1 0 _ rfl
      have o1 := cell_at q1 1 _ rfl
      have p0 := cell_at q2 0 _ rfl
      have p1 := cell_at q2 1 _ rfl
      have p2 := cell_at q2 2 _ rfl
      have p3 := cell_at q2 3 _ rfl
      have p4 := cell_at q2 4 _ rfl
      have p5 := cell_at q2 5 _ rfl
      have gA := (Array.getElem?_eq_some_iff.1 q1).1
      have gB := (Array.getElem?_eq_some_iff.1 q2).1
      clear q1 q2
      go_wp2_with fail
      refine (HSm _ (HK5.out.then (Kept.alloc Nob w5 _)) _ _ (HP5.out.nob (Kept.alloc Nob w5 _))).out.mono ?_
      rintro e w6 ⟨b6, rfl, hb6, hk6⟩
      obtain rfl := hb6.2 (by first | trivial | rfl)
      clear hb6
      clear o0 o1 p0 p1 p2 p3 p4 p5 gA gB
      have HB6 : Hid (Kept Nob ((w.alloc (.cells #[.int .i64 k, .slice a l.length cap] 26)).alloc (.cells #[.int .i64 kq, .int .i64 x1, .int .i64 y1, .int .i64 x2, .int .i64 y2, .slice a2 l2.length cap2] 46)) w6) := Lib.hid (HB5.out.then ((Kept.alloc Nob w5 _).then hk6))
      have HK6 : Hid (Kept Nob w w6) := Lib.hid (((Kept.alloc Nob w _).then (Kept.alloc Nob _ _)).then HB6.out)
      clear hk6
      obtain ⟨q1, q2⟩ := new2 HB6.out
      have o0 := cell_at q1 0 _ rfl
      have o1 := cell_at q1 1 _ rfl
      have p0 := cell_at q2 0 _ rfl
      have p1 := cell_at q2 1 _ rfl
      have p2 := cell_at q2 2 _ rfl
      have p3 := cell_at q2 3 _ rfl
      have p4 := cell_at q2 4 _ rfl
      have p5 := cell_at q2 5 _ rfl
      have gA := (Array.getElem?_eq_some_iff.1 q1).1
      have gB := (Array.getElem?_eq_some_iff.1 q2).1
      clear q1 q2
      go_wp2_with fail
      refine (HRd _).out.mono ?_
      rintro e w7 ⟨rfl, rfl⟩
      obtain ⟨t6, hmem, hcell⟩ := HSix.out rn hr6
      have cs : (w6.alloc (.cells #[.string (⟨#[32]⟩ ++ sv), .string (sv ++ ⟨#[32]⟩), .string (sv ++ ⟨#[32, 48]⟩), .string (⟨#[43]⟩ ++ sv), .string (sv ++ ⟨#[44]⟩), .string (sv ++ ⟨#[120]⟩)] 9)).cell? ⟨w6.heap.size, rn, none⟩ = some (strV t6) := cell_at (heap_alloc_new w6 _) rn _ hcell
      have HK7 := Lib.hid (HK6.out.then (Kept.alloc Nob w6 (.cells #[.string (⟨#[32]⟩ ++ sv), .string (sv ++ ⟨#[32]⟩), .string (sv ++ ⟨#[32, 48]⟩), .string (⟨#[43]⟩ ++ sv), .string (sv ++ ⟨#[44]⟩), .string (sv ++ ⟨#[120]⟩)] 9)))
      have HPn7 := HPn _ HK7.out t6 (six_len hmem) (no_six Ho.out t6 hmem)
      obtain ⟨xv, hxv⟩ : ∃ u, (⟨t6.toArray⟩ : ByteArray) = u := ⟨_, rfl⟩
      unfold strV at cs HPn7
      rw [hxv] at cs HPn7
      clear hmem hcell hxv
      go_wp2_with fail
      refine (HPn7).out.mono ?_
      rintro e w8 ⟨u8, rfl, hf8, hk8⟩
      obtain ⟨g8, rfl, -, hg8, hb8⟩ := hf8
      have HB8f := Lib.hid hb8
      clear hb8 cs
      clear o0 o1 p0 p1 p2 p3 p4 p5 gA gB
      have HB8 : Hid (Kept Nob ((w.alloc (.cells #[.int .i64 k, .slice a l.length cap] 26)).alloc (.cells #[.int .i64 kq, .int .i64 x1, .int .i64 y1, .int .i64 x2, .int .i64 y2, .slice a2 l2.length cap2] 46)) w8) := Lib.hid (HB6.out.then ((Kept.alloc Nob w6 _).then hk8))
      have HK8 : Hid (Kept Nob w w8) := Lib.hid (((Kept.alloc Nob w _).then (Kept.alloc Nob _ _)).then HB8.out)
      clear hk8
      obtain ⟨q1, q2⟩ := new2 HB8.out
      have o0 := cell_at q1 0 _ rfl
      have o1 := cell_at q1 1 _ rfl
      have p0 := cell_at q2 0 _ rfl
      have p1 := cell_at q2 1 _ rfl
      have p2 := cell_at q2 2 _ rfl
      have p3 := cell_at q2 3 _ rfl
      have p4 := cell_at q2 4 _ rfl
      have p5 := cell_at q2 5 _ rfl
      have gA := (Array.getElem?_eq_some_iff.1 q1).1
      have gB := (Array.getElem?_eq_some_iff.1 q2).1
      clear q1 q2
      have HCd := Lib.hid (code_fault (w8.alloc (.cells #[.int .i64 0, .slice none 0 0] 26)) g8 10 (cell_at (((Kept.alloc Nob w8 _).block g8 hg8 (fun f => f)).trans HB8f.out) 2 _ rfl) (by omega) (by omega))
      go_wp2_with fail
      refine HCd.out.mono ?_
      rintro e w9 ⟨rfl, rfl⟩
      have HKc := Lib.hid (HK8.out.then (Kept.alloc Nob w8 (.cells #[.int .i64 0, .slice none 0 0] 26)))
      have HBc := Lib.hid (HB8.out.then (Kept.alloc Nob w8 (.cells #[.int .i64 0, .slice none 0 0] 26)))
      go_wp2_with fail
      refine (HAw _ HKc.out).out.mono ?_
      rintro e w12 ⟨rfl, hk12⟩
      have HKe := Lib.hid (HKc.out.then hk12)
      clear hk12
      go_wp2_with fail
      go_ret
      exact ⟨rfl, HKe.out⟩
  case neg =>
    by_cases hq : QrOk ⟨kq, ⟨(x1, y1), (x2, y2)⟩, l2⟩
    case pos =>
      have se : (sv.toList == []) = true := by rw [HSl.out, (obText_no ho)]; rfl
      have sn : (sv.toList != []) = false := by simp [bne, se]
      have te : (tv.toList == []) = false := by rw [HTl.out]; exact beq_eq_false_iff_ne.2 (qrText_ne hq)
      have tn : (tv.toList != []) = true := by simp [bne, te]
      go_wp2_with fail
      refine (HCk _ HK2.out).out.mono ?_
      rintro e w3 ⟨c3, rfl, hc3, hk3⟩
      have hcb3 : (c3 == 0) = false := beq_eq_false_iff_ne.2 (fun e => ho (hc3.1 e))
      clear hc3
      clear o0 o1 p0 p1 p2 p3 p4 p5 gA gB
      have HB3 : Hid (Kept Nob ((w.alloc (.cells #[.int .i64 k, .slice a l.length cap] 26)).alloc (.cells #[.int .i64 kq, .int .i64 x1, .int .i64 y1, .int .i64 x2, .int .i64 y2, .slice a2 l2.length cap2] 46)) w3) := Lib.hid (HB2.out.then hk3)
      have HK3 : Hid (Kept Nob w w3) := Lib.hid (((Kept.alloc Nob w _).then (Kept.alloc Nob _ _)).then HB3.out)
      clear hk3
      obtain ⟨q1, q2⟩ := new2 HB3.out
      have o0 := cell_at q1 0 _ rfl
      have o1 := cell_at q1 1 _ rfl
      have p0 := cell_at q2 0 _ rfl
      have p1 := cell_at q2 1 _ rfl
      have p2 := cell_at q2 2 _ rfl
      have p3 := cell_at q2 3 _ rfl
      have p4 := cell_at q2 4 _ rfl
      have p5 := cell_at q2 5 _ rfl
      have gA := (Array.getElem?_eq_some_iff.1 q1).1
      have gB := (Array.getElem?_eq_some_iff.1 q2).1
      clear q1 q2
      go_wp2_with fail
      refine (HCq _ HK3.out).out.mono ?_
      rintro e w4 ⟨c4, rfl, hc4, hk4⟩
      obtain rfl := hc4.2 hq
      clear hc4
      clear o0 o1 p0 p1 p2 p3 p4 p5 gA gB
      have HB4 : Hid (Kept Nob ((w.alloc (.cells #[.int .i64 k, .slice a l.length cap] 26)).alloc (.cells #[.int .i64 kq, .int .i64 x1, .int .i64 y1, .int .i64 x2, .int .i64 y2, .slice a2 l2.length cap2] 46)) w4) := Lib.hid (HB3.out.then hk4)
      have HK4 : Hid (Kept Nob w w4) := Lib.hid (((Kept.alloc Nob w _).then (Kept.alloc Nob _ _)).then HB4.out)
      clear hk4
      obtain ⟨q1, q2⟩ := new2 HB4.out
      have o0 := cell_at q1 0 _ rfl
      have o1 := cell_at q1 1 _ rfl
      have p0 := cell_at q2 0 _ rfl
      have p1 := cell_at q2 1 _ rfl
      have p2 := cell_at q2 2 _ rfl
      have p3 := cell_at q2 3 _ rfl
      have p4 := cell_at q2 4 _ rfl
      have p5 := cell_at q2 5 _ rfl
      have gA := (Array.getElem?_eq_some_iff.1 q1).1
      have gB := (Array.getElem?_eq_some_iff.1 q2).1
      clear q1 q2
      have HPq := fun (wx : World) (kx : Kept Nob w wx) => Lib.hid (parseQ_yes wx ⟨kq, ⟨(x1, y1), (x2, y2)⟩, l2⟩ hq (HE.out.kept kx))
      have hqo := qrOf_ok hq
      obtain ⟨q', hq'⟩ : ∃ q', qrOf kq (qrPts ⟨kq, ⟨(x1, y1), (x2, y2)⟩, l2⟩) = q' := ⟨_, rfl⟩
      simp only [hq'] at HPq hqo
      have hring : q'.ring.length ≤ 64 := by
        rw [← hq']
        exact qrOf_ring kq (qrPts_len hq).2
      obtain ⟨k', ⟨⟨a1', b1'⟩, ⟨a2', b2'⟩⟩, r'⟩ := q'
      simp only [qrVal, qrV] at HPq hqo hring
      obtain ⟨-, hqt, hkk⟩ := hqo
      obtain rfl := hkk.symm
      have HQt := Lib.hid hqt
      simp only [strV, HTv.out] at HPq
      clear hqt hq'
      clear ho hq
      go_wp2_with fail
      refine (HPq _ HK4.out).out.mono ?_
      rintro e w10 ⟨u10, rfl, hp10, hk10⟩
      obtain ⟨ra, rc, rfl⟩ := hp10.shape
      have HP10 := Lib.hid hp10
      clear hp10 o0 o1 p0 p1 p2 p3 p4 p5 gA gB
      have HB10 : Hid (Kept Nob ((w.alloc (.cells #[.int .i64 k, .slice a l.length cap] 26)).alloc (.cells #[.int .i64 kq, .int .i64 x1, .int .i64 y1, .int .i64 x2, .int .i64 y2, .slice a2 l2.length cap2] 46)) w10) := Lib.hid (HB4.out.then hk10)
      have HK10 : Hid (Kept Nob w w10) := Lib.hid (((Kept.alloc Nob w _).then (Kept.alloc Nob _ _)).then HB10.out)
      clear hk10
      obtain ⟨q1, q2⟩ := new2 HB10.out
      have o0 := cell_at q1 0 _ rfl
      have o1 := cell_at q1 1 _ rfl
      have p0 := cell_at q2 0 _ rfl
      have p1 := cell_at q2 1 _ rfl
      have p2 := cell_at q2 2 _ rfl
      have p3 := cell_at q2 3 _ rfl
      have p4 := cell_at q2 4 _ rfl
      have p5 := cell_at q2 5 _ rfl
      have gA := (Array.getElem?_eq_some_iff.1 q1).1
      have gB := (Array.getElem?_eq_some_iff.1 q2).1
      clear q1 q2
      have HQ2 := Lib.hid (script_Query (w10.alloc (.cells #[.int .i64 kq, .int .i64 a1', .int .i64 b1', .int .i64 a2', .int .i64 b2', .slice ra r'.length rc] 46)) kq a1' b1' a2' b2' _ r' _ (HP10.out.nob (Kept.alloc Nob w10 _)) (by omega) (HE.out.kept (HK10.out.then (Kept.alloc Nob w10 _))))
      simp only [strV, HQt.out, HTv.out] at HQ2
      go_wp2_with fail
      refine (HQ2).out.mono ?_
      rintro e w11 ⟨rfl, hk11⟩
      have QB := new1 hk11
      have q0 := cell_at QB 0 _ rfl
      clear QB
      clear o0 o1 p0 p1 p2 p3 p4 p5 gA gB
      have HB11 : Hid (Kept Nob ((w.alloc (.cells #[.int .i64 k, .slice a l.length cap] 26)).alloc (.cells #[.int .i64 kq, .int .i64 x1, .int .i64 y1, .int .i64 x2, .int .i64 y2, .slice a2 l2.length cap2] 46)) w11) := Lib.hid (HB10.out.then ((Kept.alloc Nob w10 _).then hk11))
      have HK11 : Hid (Kept Nob w w11) := Lib.hid (((Kept.alloc Nob w _).then (Kept.alloc Nob _ _)).then HB11.out)
      clear hk11
      obtain ⟨q1, q2⟩ := new2 HB11.out
      have o0 := cell_at q1 0 _ rfl
      have o1 := cell_at q1 1 _ rfl
      have p0 := cell_at q2 0 _ rfl
      have p1 := cell_at q2 1 _ rfl
      have p2 := cell_at q2 2 _ rfl
      have p3 := cell_at q2 3 _ rfl
      have p4 := cell_at q2 4 _ rfl
      have p5 := cell_at q2 5 _ rfl
      have gA := (Array.getElem?_eq_some_iff.1 q1).1
      have gB := (Array.getElem?_eq_some_iff.1 q2).1
      clear q1 q2
      go_wp2_with fail
      refine (HAw _ HK11.out).out.mono ?_
      rintro e w12 ⟨rfl, hk12⟩
      have HKe := Lib.hid (HK11.out.then hk12)
      clear hk12
      go_wp2_with fail
      go_ret
      exact ⟨rfl, HKe.out⟩
    case neg =>
      have se : (sv.toList == []) = true := by rw [HSl.out, (obText_no ho)]; rfl
      have sn : (sv.toList != []) = false := by simp [bne, se]
      have te : (tv.toList == []) = true := by rw [HTl.out, (qrText_no hq)]; rfl
      have tn : (tv.toList != []) = false := by simp [bne, te]
      go_wp2_with fail
      refine (HCk _ HK2.out).out.mono ?_
      rintro e w3 ⟨c3, rfl, hc3, hk3⟩
      have hcb3 : (c3 == 0) = false := beq_eq_false_iff_ne.2 (fun e => ho (hc3.1 e))
      clear hc3
      clear o0 o1 p0 p1 p2 p3 p4 p5 gA gB
      have HB3 : Hid (Kept Nob ((w.alloc (.cells #[.int .i64 k, .slice a l.length cap] 26)).alloc (.cells #[.int .i64 kq, .int .i64 x1, .int .i64 y1, .int .i64 x2, .int .i64 y2, .slice a2 l2.length cap2] 46)) w3) := Lib.hid (HB2.out.then hk3)
      have HK3 : Hid (Kept Nob w w3) := Lib.hid (((Kept.alloc Nob w _).then (Kept.alloc Nob _ _)).then HB3.out)
      clear hk3
      obtain ⟨q1, q2⟩ := new2 HB3.out
      have o0 := cell_at q1 0 _ rfl
      have o1 := cell_at q1 1 _ rfl
      have p0 := cell_at q2 0 _ rfl
      have p1 := cell_at q2 1 _ rfl
      have p2 := cell_at q2 2 _ rfl
      have p3 := cell_at q2 3 _ rfl
      have p4 := cell_at q2 4 _ rfl
      have p5 := cell_at q2 5 _ rfl
      have gA := (Array.getElem?_eq_some_iff.1 q1).1
      have gB := (Array.getElem?_eq_some_iff.1 q2).1
      clear q1 q2
      go_wp2_with fail
      refine (HCq _ HK3.out).out.mono ?_
      rintro e w4 ⟨c4, rfl, hc4, hk4⟩
      have hcb4 : (c4 == 0) = false := beq_eq_false_iff_ne.2 (fun e => hq (hc4.1 e))
      clear hc4
      clear o0 o1 p0 p1 p2 p3 p4 p5 gA gB
      have HB4 : Hid (Kept Nob ((w.alloc (.cells #[.int .i64 k, .slice a l.length cap] 26)).alloc (.cells #[.int .i64 kq, .int .i64 x1, .int .i64 y1, .int .i64 x2, .int .i64 y2, .slice a2 l2.length cap2] 46)) w4) := Lib.hid (HB3.out.then hk4)
      have HK4 : Hid (Kept Nob w w4) := Lib.hid (((Kept.alloc Nob w _).then (Kept.alloc Nob _ _)).then HB4.out)
      clear hk4
      obtain ⟨q1, q2⟩ := new2 HB4.out
      have o0 := cell_at q1 0 _ rfl
      have o1 := cell_at q1 1 _ rfl
      have p0 := cell_at q2 0 _ rfl
      have p1 := cell_at q2 1 _ rfl
      have p2 := cell_at q2 2 _ rfl
      have p3 := cell_at q2 3 _ rfl
      have p4 := cell_at q2 4 _ rfl
      have p5 := cell_at q2 5 _ rfl
      have gA := (Array.getElem?_eq_some_iff.1 q1).1
      have gB := (Array.getElem?_eq_some_iff.1 q2).1
      clear q1 q2
      clear ho hq
      go_wp2_with fail
      refine (HAw _ HK4.out).out.mono ?_
      rintro e w12 ⟨rfl, hk12⟩
      have HKe := Lib.hid (HK4.out.then hk12)
      clear hk12
      go_wp2_with fail
      go_ret
      exact ⟨rfl, HKe.out⟩
end Go.Proofs.YthjiobmglebmdaaGreatDoor
