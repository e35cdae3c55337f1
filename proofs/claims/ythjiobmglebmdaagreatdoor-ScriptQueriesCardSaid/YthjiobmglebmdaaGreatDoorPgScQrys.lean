/- ScriptQueries: the program and the document write and read queries alike. Printed by gen_qrys.py. -/
import Derived.Test.YthjiobmglebmdaaGreatDoorPgRfParseQ
import Derived.Test.YthjiobmglebmdaaGreatDoorPgScQSame
import Derived.Test.YthjiobmglebmdaaGreatDoorPgScAwake
import Derived.Test.YthjiobmglebmdaaGreatDoorPgIs
namespace Go.Proofs.YthjiobmglebmdaaGreatDoor
open Go.RowKit
open Go.Proofs.YthjiobmglebmdaaGreatDoor.Geo Go.Proofs.YthjiobmglebmdaaGreatDoor.Txt

theorem qr_len {q : Qr} (h : QrOk q) : (qrOf q.kind (qrPts q)).ring.length < 1000000000 := by
  have := (qrPts_len h).2
  rcases h.four with e | e | e | e <;> rw [e] <;> simp [qrOf] <;> omega
set_option maxRecDepth 100000 in
set_option maxHeartbeats 16000000 in
theorem qrys_any (w : World) (k x1 y1 x2 y2 : Int) (v : Value) (l : List Pt) (F : Nat → Prop) (h : PtsAt w v l F) (s : List UInt8) (hE : Env w) (hT : Typed w) :
    Calls Tryz.prog 7 #[.agg #[.int .i64 k, .int .i64 x1, .int .i64 y1, .int .i64 x2, .int .i64 y2, v], strV s] w (RetTrue w) := by
  obtain ⟨a, cap, rfl⟩ := h.shape
  have HE := Lib.hid hE
  have HTy := Lib.hid hT
  have HAw := fun (wx : World) (kx : Kept Nob w wx) => Lib.hid (sc_awake wx (hE.kept kx))
  have HP := Lib.hid h
  clear h hE hT
  obtain ⟨sv, hsv⟩ : ∃ u, (⟨s.toArray⟩ : ByteArray) = u := ⟨_, rfl⟩
  have hsz : sv.size = s.length := by rw [← hsv]; simp [ByteArray.size]
  by_cases hl : 70 < l.length
  · have hl' : (70 : Int) < (l.length : Int) := by omega
    unfold strV
    rw [hsv]
    clear hl hsv
    go_enter Tryz.func7, Tryz.ntmps7
    go_wp2_with fail
    refine (HAw _ (Kept.alloc Nob w _)).out.mono ?_
    rintro e w1 ⟨rfl, hk1⟩
    have HK := Lib.hid ((Kept.alloc Nob w _).then hk1)
    clear hk1
    go_wp2_with fail
    go_ret
    exact ⟨rfl, HK.out⟩
  have hl' : ¬ (70 : Int) < (l.length : Int) := by omega
  by_cases hs : 2000 < s.length
  · have hs' : (2000 : Int) < (s.length : Int) := by omega
    unfold strV
    rw [hsv]
    clear hl hsv
    go_enter Tryz.func7, Tryz.ntmps7
    go_wp2_with fail
    refine (HAw _ (Kept.alloc Nob w _)).out.mono ?_
    rintro e w1 ⟨rfl, hk1⟩
    have HK := Lib.hid ((Kept.alloc Nob w _).then hk1)
    clear hk1
    go_wp2_with fail
    go_ret
    exact ⟨rfl, HK.out⟩
  have hs' : ¬ (2000 : Int) < (s.length : Int) := by omega
  have HPa := fun (wx : World) (kx : Kept Nob w wx) => Lib.hid (script_ParseQuery wx s (by omega) (HE.out.kept kx))
  have HPb := fun (wx : World) => Lib.hid (ref_ParseQuery wx s (by omega))
  have HOa := fun (wx : World) (kx : Kept Nob w wx) => Lib.hid (script_Query wx k x1 y1 x2 y2 _ l F (HP.out.nob kx) (by omega) (HE.out.kept kx))
  have HObb := fun (wx : World) (kx : Kept Nob w wx) => Lib.hid (ref_Query wx k x1 y1 x2 y2 _ l F (HP.out.nob kx) (by omega))
  obtain ⟨tv, htv⟩ : ∃ u, (⟨(qrText ⟨k, ⟨(x1, y1), (x2, y2)⟩, l⟩).toArray⟩ : ByteArray) = u := ⟨_, rfl⟩
  unfold strV at HPa HPb HOa HObb ⊢
  rw [htv] at HOa HObb
  rw [hsv] at HPa HPb ⊢
  clear hl hs hsv htv
  go_enter Tryz.func7, Tryz.ntmps7
  go_wp2_with fail
  refine (HPa _ (Kept.alloc Nob w _)).out.mono ?_
  rintro e w1 (⟨q1, u, ho, he, rfl, hp, hk1⟩ | ⟨hn, u, rfl, hf, hk1⟩)
  · have hln := qr_len ho
    obtain ⟨D, hD⟩ : ∃ D, qrOf q1.kind (qrPts q1) = D := ⟨_, rfl⟩
    rw [hD] at hp hln
    simp only [hD]
    obtain ⟨dk, ⟨⟨da, db⟩, ⟨dc, dd⟩⟩, dl⟩ := D
    simp only at hp hln
    unfold qrVal qrV
    obtain ⟨ua, uc, rfl⟩ := hp.shape
    have HP1 := Lib.hid hp
    have HOk := Lib.hid ho
    have HTx := Lib.hid he
    have HD := Lib.hid hD
    have HLn := Lib.hid hln
    clear hp ho he hD hln
    have HK1 := Lib.hid ((Kept.alloc Nob w _).then hk1)
    have HB1 := Lib.hid hk1
    clear hk1
    go_wp2_with fail
    refine (HPb _).out.mono ?_
    rintro e w2 (⟨q2, u2, ho2, he2, rfl, hp2, hk2⟩ | ⟨hn2, _, _⟩)
    case inr => exact absurd HTx.out (hn2 q1 HOk.out)
    have hD2 : qrOf q2.kind (qrPts q2) = ⟨dk, ⟨(da, db), (dc, dd)⟩, dl⟩ := by
      have hi := qrText_inj ho2 HOk.out (he2.trans HTx.out.symm)
      rw [hi.1, hi.2]; exact HD.out
    rw [hD2] at hp2
    simp only [hD2]
    simp only at hp2
    unfold qrVal qrV
    clear ho2 he2 hD2
    obtain ⟨ub, ud, rfl⟩ := hp2.shape
    have HP2 := Lib.hid hp2
    clear hp2
    have HB2 := Lib.hid hk2
    have HK2 := Lib.hid (HK1.out.then ((Kept.alloc Nob w1 _).then hk2))
    clear hk2
    go_wp2_with fail
    have hw1 : w.heap.size < w1.heap.size := (Array.getElem?_eq_some_iff.1 (new1 HB1.out)).1
    have hw2 : w1.heap.size < w2.heap.size := (Array.getElem?_eq_some_iff.1 (new1 HB2.out)).1
    have HB7 := fun (W : World) (kx : Kept Nob (w2.alloc (.cells #[.int .i64 dk, .int .i64 da, .int .i64 db, .int .i64 dc, .int .i64 dd, (.slice ub dl.length ud)] 46)) W) => Lib.hid (new1 kx)
    have HB5 := fun (W : World) (kx : Kept Nob (w2.alloc (.cells #[.int .i64 dk, .int .i64 da, .int .i64 db, .int .i64 dc, .int .i64 dd, (.slice ub dl.length ud)] 46)) W) => Lib.hid (new1 (HB2.out.then ((Kept.alloc Nob w2 _).then kx)))
    have HB0 := fun (W : World) (kx : Kept Nob (w2.alloc (.cells #[.int .i64 dk, .int .i64 da, .int .i64 db, .int .i64 dc, .int .i64 dd, (.slice ub dl.length ud)] 46)) W) => Lib.hid (new1 (HB1.out.then ((Kept.alloc Nob w1 _).then (HB2.out.then ((Kept.alloc Nob w2 _).then kx)))))
    refine wp_region_held_drew (S := (fun W => Kept Nob (w2.alloc (.cells #[.int .i64 dk, .int .i64 da, .int .i64 db, .int .i64 dc, .int .i64 dd, (.slice ub dl.length ud)] 46)) W)) (by kernel_rfl) ?_ (fun hHeld => ?_)
    · first | exact Kept.refl _ _ | exact Kept.drew _ _
    refine take_to (i := 0) (oi := _) (v := ?_) (some 29) rfl (by kernel_rfl) (by kernel_rfl) (by kernel_rfl) (by kernel_rfl) (fun _ _ _ h => h) (Or.inl ⟨by kernel_rfl, ?_⟩) (by assumption) ?_
    case refine_2 => (intro w hSw; (try dsimp only at hSw); have b0 := (HB0 _ hSw).out; have cc0 := cell_at b0 0 _ rfl; have cc1 := cell_at b0 1 _ rfl; have cc2 := cell_at b0 2 _ rfl; have cc3 := cell_at b0 3 _ rfl; have cc4 := cell_at b0 4 _ rfl; have cc5 := cell_at b0 5 _ rfl; clear b0; go_simp; try with_reducible rfl)
    try simp only [Act.put, List.setIfInBounds_toArray, List.set_cons_zero, List.set_cons_succ]
    refine take_to (i := 2) (oi := _) (v := ?_) (some 31) rfl (by kernel_rfl) (by kernel_rfl) (by kernel_rfl) (by kernel_rfl) (fun _ _ _ h => h) (Or.inl ⟨by kernel_rfl, ?_⟩) (by assumption) ?_
    case refine_2 => (intro w hSw; (try dsimp only at hSw); have b0 := (HB0 _ hSw).out; have cc0 := cell_at b0 0 _ rfl; have cc1 := cell_at b0 1 _ rfl; have cc2 := cell_at b0 2 _ rfl; have cc3 := cell_at b0 3 _ rfl; have cc4 := cell_at b0 4 _ rfl; have cc5 := cell_at b0 5 _ rfl; clear b0; go_simp; try with_reducible rfl)
    try simp only [Act.put, List.setIfInBounds_toArray, List.set_cons_zero, List.set_cons_succ]
    refine wpAnyH_ready (rs := [1]) (by kernel_rfl) (by simp) ?_
    refine AllReadyH.cons (o := _) rfl (fun K hK => ?_) AllReadyH.nil
    go_simp
    refine (HOa _ ((HK2.out.then (Kept.alloc Nob w2 _)).then hHeld)).out.mono ?_
    rintro e x1 ⟨rfl, hk11⟩
    try go_wp2_with fail
    refine hK.out _ _ (hHeld.then hk11) (fun hHeld => ?_)
    clear hK K
    try simp only [Act.put, List.setIfInBounds_toArray, List.set_cons_zero, List.set_cons_succ]
    refine wpAnyH_ready (rs := [3]) (by kernel_rfl) (by simp) ?_
    refine AllReadyH.cons (o := _) rfl (fun K hK => ?_) AllReadyH.nil
    go_simp
    refine (HObb _ ((HK2.out.then (Kept.alloc Nob w2 _)).then hHeld)).out.mono ?_
    rintro e x2 ⟨rfl, hk12⟩
    try go_wp2_with fail
    refine hK.out _ _ (hHeld.then hk12) (fun hHeld => ?_)
    clear hK K
    try simp only [Act.put, List.setIfInBounds_toArray, List.set_cons_zero, List.set_cons_succ]
    refine take_to (i := 4) (oi := _) (v := ?_) (some 33) rfl (by kernel_rfl) (by kernel_rfl) (by kernel_rfl) (by kernel_rfl) (fun _ _ _ h => h) (Or.inl ⟨by kernel_rfl, ?_⟩) (by assumption) ?_
    case refine_2 => (intro w hSw; (try dsimp only at hSw); go_simp; try with_reducible rfl)
    try simp only [Act.put, List.setIfInBounds_toArray, List.set_cons_zero, List.set_cons_succ]
    refine take_to (i := 5) (oi := _) (v := ?_) (some 34) rfl (by kernel_rfl) (by kernel_rfl) (by kernel_rfl) (by kernel_rfl) (fun _ _ _ h => h) (Or.inl ⟨by kernel_rfl, ?_⟩) (by assumption) ?_
    case refine_2 => (intro w hSw; (try dsimp only at hSw); go_simp; try with_reducible rfl)
    try simp only [Act.put, List.setIfInBounds_toArray, List.set_cons_zero, List.set_cons_succ]
    refine take_to (i := 6) (oi := _) (v := ?_) (some 35) rfl (by kernel_rfl) (by kernel_rfl) (by kernel_rfl) (by kernel_rfl) (fun _ _ _ h => h) (Or.inl ⟨by kernel_rfl, ?_⟩) (by assumption) ?_
    case refine_2 => (intro w hSw; (try dsimp only at hSw); have b0 := (HB5 _ hSw).out; have cc0 := cell_at b0 0 _ rfl; have cc1 := cell_at b0 1 _ rfl; have cc2 := cell_at b0 2 _ rfl; have cc3 := cell_at b0 3 _ rfl; have cc4 := cell_at b0 4 _ rfl; have cc5 := cell_at b0 5 _ rfl; clear b0; go_simp; try with_reducible rfl)
    try simp only [Act.put, List.setIfInBounds_toArray, List.set_cons_zero, List.set_cons_succ]
    refine take_to (i := 7) (oi := _) (v := ?_) (some 36) rfl (by kernel_rfl) (by kernel_rfl) (by kernel_rfl) (by kernel_rfl) (fun _ _ _ h => h) (Or.inl ⟨by kernel_rfl, ?_⟩) (by assumption) ?_
    case refine_2 => (intro w hSw; (try dsimp only at hSw); have b0 := (HB7 _ hSw).out; have cc0 := cell_at b0 0 _ rfl; have cc1 := cell_at b0 1 _ rfl; have cc2 := cell_at b0 2 _ rfl; have cc3 := cell_at b0 3 _ rfl; have cc4 := cell_at b0 4 _ rfl; have cc5 := cell_at b0 5 _ rfl; clear b0; go_simp; try with_reducible rfl)
    try simp only [Act.put, List.setIfInBounds_toArray, List.set_cons_zero, List.set_cons_succ]
    refine wpAnyH_ready (rs := [8]) (by kernel_rfl) (by simp) ?_
    refine AllReadyH.cons (o := _) rfl (fun K hK => ?_) AllReadyH.nil
    go_simp
    refine (sc_query_same _ dk da db dc dd _ _ dl _ _ (HP1.out.nob ((Kept.alloc Nob w1 _).then (HB2.out.then ((Kept.alloc Nob w2 _).then hHeld)))) (HP2.out.nob ((Kept.alloc Nob w2 _).then hHeld)) HLn.out).mono ?_
    rintro e x3 ⟨rfl, hk13⟩
    try go_wp2_with fail
    refine hK.out _ _ (hHeld.then hk13) (fun hHeld => ?_)
    clear hK K
    try simp only [Act.put, List.setIfInBounds_toArray, List.set_cons_zero, List.set_cons_succ]
    refine take_to (i := 9) (oi := _) (v := ?_) (some 38) rfl (by kernel_rfl) (by kernel_rfl) (by kernel_rfl) (by kernel_rfl) (fun _ _ _ h => h) (Or.inl ⟨by kernel_rfl, ?_⟩) (by assumption) ?_
    case refine_2 => (intro w hSw; (try dsimp only at hSw); go_simp; try with_reducible rfl)
    try simp only [Act.put, List.setIfInBounds_toArray, List.set_cons_zero, List.set_cons_succ]
    refine take_to (i := 10) (oi := _) (v := ?_) (some 39) rfl (by kernel_rfl) (by kernel_rfl) (by kernel_rfl) (by kernel_rfl) (fun _ _ _ h => h) (Or.inl ⟨by kernel_rfl, ?_⟩) (by assumption) ?_
    case refine_2 => (intro w hSw; (try dsimp only at hSw); go_simp; try with_reducible rfl)
    try simp only [Act.put, List.setIfInBounds_toArray, List.set_cons_zero, List.set_cons_succ]
    refine take_to (i := 11) (oi := _) (v := ?_) (some 40) rfl (by kernel_rfl) (by kernel_rfl) (by kernel_rfl) (by kernel_rfl) (fun _ _ _ h => h) (Or.inl ⟨by kernel_rfl, ?_⟩) (by assumption) ?_
    case refine_2 => (intro w hSw; (try dsimp only at hSw); go_simp; try with_reducible rfl)
    try simp only [Act.put, List.setIfInBounds_toArray, List.set_cons_zero, List.set_cons_succ]
    refine take_to (i := 12) (oi := _) (v := ?_) (some 41) rfl (by kernel_rfl) (by kernel_rfl) (by kernel_rfl) (by kernel_rfl) (fun _ _ _ h => h) (Or.inl ⟨by kernel_rfl, ?_⟩) (by assumption) ?_
    case refine_2 => (intro w hSw; (try dsimp only at hSw); go_simp; try with_reducible rfl)
    try simp only [Act.put, List.setIfInBounds_toArray, List.set_cons_zero, List.set_cons_succ]
    refine wpAnyH_ready (rs := [13]) (by kernel_rfl) (by simp) ?_
    refine AllReadyH.cons (o := _) rfl (fun K hK => ?_) AllReadyH.nil
    go_simp
    refine (is_none _ _ _).mono ?_
    rintro e x4 ⟨rfl, rfl⟩
    try go_wp2_with fail
    refine hK.out _ _ (hHeld) (fun hHeld => ?_)
    clear hK K
    try simp only [Act.put, List.setIfInBounds_toArray, List.set_cons_zero, List.set_cons_succ]
    refine take_to (i := 14) (oi := _) (v := ?_) (some 43) rfl (by kernel_rfl) (by kernel_rfl) (by kernel_rfl) (by kernel_rfl) (fun _ _ _ h => h) (Or.inl ⟨by kernel_rfl, ?_⟩) (by assumption) ?_
    case refine_2 => (intro w hSw; (try dsimp only at hSw); go_simp; try with_reducible rfl)
    try simp only [Act.put, List.setIfInBounds_toArray, List.set_cons_zero, List.set_cons_succ]
    refine take_to (i := 15) (oi := _) (v := ?_) (some 44) rfl (by kernel_rfl) (by kernel_rfl) (by kernel_rfl) (by kernel_rfl) (fun _ _ _ h => h) (Or.inl ⟨by kernel_rfl, ?_⟩) (by assumption) ?_
    case refine_2 => (intro w hSw; (try dsimp only at hSw); go_simp; try with_reducible rfl)
    try simp only [Act.put, List.setIfInBounds_toArray, List.set_cons_zero, List.set_cons_succ]
    refine wpAnyH_ready (rs := [16]) (by kernel_rfl) (by simp) ?_
    refine AllReadyH.cons (o := _) rfl (fun K hK => ?_) AllReadyH.nil
    go_simp
    refine (HAw _ ((HK2.out.then (Kept.alloc Nob w2 _)).then hHeld)).out.mono ?_
    rintro e x5 ⟨rfl, hk15⟩
    try go_wp2_with fail
    refine hK.out _ _ (hHeld.then hk15) (fun hHeld => ?_)
    clear hK K
    try simp only [Act.put, List.setIfInBounds_toArray, List.set_cons_zero, List.set_cons_succ]
    refine take_to (i := 17) (oi := _) (v := ?_) (some 46) rfl (by kernel_rfl) (by kernel_rfl) (by kernel_rfl) (by kernel_rfl) (fun _ _ _ h => h) (Or.inl ⟨by kernel_rfl, ?_⟩) (by assumption) ?_
    case refine_2 => (intro w hSw; (try dsimp only at hSw); go_simp; try with_reducible rfl)
    try simp only [Act.put, List.setIfInBounds_toArray, List.set_cons_zero, List.set_cons_succ]
    refine take_to (i := 18) (oi := _) (v := ?_) (some 4) rfl (by kernel_rfl) (by kernel_rfl) (by kernel_rfl) (by kernel_rfl) (fun _ _ _ h => h) (Or.inl ⟨by kernel_rfl, ?_⟩) (by assumption) ?_
    case refine_2 => (intro w hSw; (try dsimp only at hSw); go_simp; try with_reducible rfl)
    try simp only [Act.put, List.setIfInBounds_toArray, List.set_cons_zero, List.set_cons_succ]
    refine wpAnyH_done (by kernel_rfl) ?_ _
    go_wp2_with fail
    go_ret
    exact ⟨by first | rfl | simp, (HK2.out.then (Kept.alloc Nob w2 _)).then hHeld⟩
  · have HN := Lib.hid hn
    have HF := Lib.hid hf
    clear hn hf
    have HK1 := Lib.hid ((Kept.alloc Nob w _).then hk1)
    have HB1 := Lib.hid hk1
    clear hk1
    go_wp2_with fail
    refine (HPb _).out.mono ?_
    rintro e w2 (⟨q2, u2, ho2, he2, _, _, _⟩ | ⟨_, rfl, hk2⟩)
    case inl => exact absurd he2 (HN.out q2 ho2)
    have HB2 := Lib.hid hk2
    have HK2 := Lib.hid (HK1.out.then ((Kept.alloc Nob w1 _).then hk2))
    clear hk2
    go_wp2_with fail
    have hw1 : w.heap.size < w1.heap.size := (Array.getElem?_eq_some_iff.1 (new1 HB1.out)).1
    have hw2 : w1.heap.size < w2.heap.size := (Array.getElem?_eq_some_iff.1 (new1 HB2.out)).1
    have HB7 := fun (W : World) (kx : Kept Nob (w2.alloc (.cells #[.int .i64 0, .int .i64 0, .int .i64 0, .int .i64 0, .int .i64 0, (.slice none 0 0)] 46)) W) => Lib.hid (new1 kx)
    have HB5 := fun (W : World) (kx : Kept Nob (w2.alloc (.cells #[.int .i64 0, .int .i64 0, .int .i64 0, .int .i64 0, .int .i64 0, (.slice none 0 0)] 46)) W) => Lib.hid (new1 (HB2.out.then ((Kept.alloc Nob w2 _).then kx)))
    have HB0 := fun (W : World) (kx : Kept Nob (w2.alloc (.cells #[.int .i64 0, .int .i64 0, .int .i64 0, .int .i64 0, .int .i64 0, (.slice none 0 0)] 46)) W) => Lib.hid (new1 (HB1.out.then ((Kept.alloc Nob w1 _).then (HB2.out.then ((Kept.alloc Nob w2 _).then kx)))))
    refine wp_region_held_drew (S := (fun W => Kept Nob (w2.alloc (.cells #[.int .i64 0, .int .i64 0, .int .i64 0, .int .i64 0, .int .i64 0, (.slice none 0 0)] 46)) W)) (by kernel_rfl) ?_ (fun hHeld => ?_)
    · first | exact Kept.refl _ _ | exact Kept.drew _ _
    refine take_to (i := 0) (oi := _) (v := ?_) (some 29) rfl (by kernel_rfl) (by kernel_rfl) (by kernel_rfl) (by kernel_rfl) (fun _ _ _ h => h) (Or.inl ⟨by kernel_rfl, ?_⟩) (by assumption) ?_
    case refine_2 => (intro w hSw; (try dsimp only at hSw); have b0 := (HB0 _ hSw).out; have cc0 := cell_at b0 0 _ rfl; have cc1 := cell_at b0 1 _ rfl; have cc2 := cell_at b0 2 _ rfl; have cc3 := cell_at b0 3 _ rfl; have cc4 := cell_at b0 4 _ rfl; have cc5 := cell_at b0 5 _ rfl; clear b0; go_simp; try with_reducible rfl)
    try simp only [Act.put, List.setIfInBounds_toArray, List.set_cons_zero, List.set_cons_succ]
    refine take_to (i := 2) (oi := _) (v := ?_) (some 31) rfl (by kernel_rfl) (by kernel_rfl) (by kernel_rfl) (by kernel_rfl) (fun _ _ _ h => h) (Or.inl ⟨by kernel_rfl, ?_⟩) (by assumption) ?_
    case refine_2 => (intro w hSw; (try dsimp only at hSw); have b0 := (HB0 _ hSw).out; have cc0 := cell_at b0 0 _ rfl; have cc1 := cell_at b0 1 _ rfl; have cc2 := cell_at b0 2 _ rfl; have cc3 := cell_at b0 3 _ rfl; have cc4 := cell_at b0 4 _ rfl; have cc5 := cell_at b0 5 _ rfl; clear b0; go_simp; try with_reducible rfl)
    try simp only [Act.put, List.setIfInBounds_toArray, List.set_cons_zero, List.set_cons_succ]
    refine wpAnyH_ready (rs := [1]) (by kernel_rfl) (by simp) ?_
    refine AllReadyH.cons (o := _) rfl (fun K hK => ?_) AllReadyH.nil
    go_simp
    refine (HOa _ ((HK2.out.then (Kept.alloc Nob w2 _)).then hHeld)).out.mono ?_
    rintro e x1 ⟨rfl, hk11⟩
    try go_wp2_with fail
    refine hK.out _ _ (hHeld.then hk11) (fun hHeld => ?_)
    clear hK K
    try simp only [Act.put, List.setIfInBounds_toArray, List.set_cons_zero, List.set_cons_succ]
    refine wpAnyH_ready (rs := [3]) (by kernel_rfl) (by simp) ?_
    refine AllReadyH.cons (o := _) rfl (fun K hK => ?_) AllReadyH.nil
    go_simp
    refine (HObb _ ((HK2.out.then (Kept.alloc Nob w2 _)).then hHeld)).out.mono ?_
    rintro e x2 ⟨rfl, hk12⟩
    try go_wp2_with fail
    refine hK.out _ _ (hHeld.then hk12) (fun hHeld => ?_)
    clear hK K
    try simp only [Act.put, List.setIfInBounds_toArray, List.set_cons_zero, List.set_cons_succ]
    refine take_to (i := 4) (oi := _) (v := ?_) (some 33) rfl (by kernel_rfl) (by kernel_rfl) (by kernel_rfl) (by kernel_rfl) (fun _ _ _ h => h) (Or.inl ⟨by kernel_rfl, ?_⟩) (by assumption) ?_
    case refine_2 => (intro w hSw; (try dsimp only at hSw); go_simp; try with_reducible rfl)
    try simp only [Act.put, List.setIfInBounds_toArray, List.set_cons_zero, List.set_cons_succ]
    refine take_to (i := 5) (oi := _) (v := ?_) (some 34) rfl (by kernel_rfl) (by kernel_rfl) (by kernel_rfl) (by kernel_rfl) (fun _ _ _ h => h) (Or.inl ⟨by kernel_rfl, ?_⟩) (by assumption) ?_
    case refine_2 => (intro w hSw; (try dsimp only at hSw); go_simp; try with_reducible rfl)
    try simp only [Act.put, List.setIfInBounds_toArray, List.set_cons_zero, List.set_cons_succ]
    refine take_to (i := 6) (oi := _) (v := ?_) (some 35) rfl (by kernel_rfl) (by kernel_rfl) (by kernel_rfl) (by kernel_rfl) (fun _ _ _ h => h) (Or.inl ⟨by kernel_rfl, ?_⟩) (by assumption) ?_
    case refine_2 => (intro w hSw; (try dsimp only at hSw); have b0 := (HB5 _ hSw).out; have cc0 := cell_at b0 0 _ rfl; have cc1 := cell_at b0 1 _ rfl; have cc2 := cell_at b0 2 _ rfl; have cc3 := cell_at b0 3 _ rfl; have cc4 := cell_at b0 4 _ rfl; have cc5 := cell_at b0 5 _ rfl; clear b0; go_simp; try with_reducible rfl)
    try simp only [Act.put, List.setIfInBounds_toArray, List.set_cons_zero, List.set_cons_succ]
    refine take_to (i := 7) (oi := _) (v := ?_) (some 36) rfl (by kernel_rfl) (by kernel_rfl) (by kernel_rfl) (by kernel_rfl) (fun _ _ _ h => h) (Or.inl ⟨by kernel_rfl, ?_⟩) (by assumption) ?_
    case refine_2 => (intro w hSw; (try dsimp only at hSw); have b0 := (HB7 _ hSw).out; have cc0 := cell_at b0 0 _ rfl; have cc1 := cell_at b0 1 _ rfl; have cc2 := cell_at b0 2 _ rfl; have cc3 := cell_at b0 3 _ rfl; have cc4 := cell_at b0 4 _ rfl; have cc5 := cell_at b0 5 _ rfl; clear b0; go_simp; try with_reducible rfl)
    try simp only [Act.put, List.setIfInBounds_toArray, List.set_cons_zero, List.set_cons_succ]
    refine wpAnyH_ready (rs := [8]) (by kernel_rfl) (by simp) ?_
    refine AllReadyH.cons (o := _) rfl (fun K hK => ?_) AllReadyH.nil
    go_simp
    refine (sc_query_same _ 0 0 0 0 0 _ _ [] _ _ (PtsAt.nils _ (fun _ => True)) (PtsAt.nils _ (fun _ => True)) (by simp)).mono ?_
    rintro e x3 ⟨rfl, hk13⟩
    try go_wp2_with fail
    refine hK.out _ _ (hHeld.then hk13) (fun hHeld => ?_)
    clear hK K
    try simp only [Act.put, List.setIfInBounds_toArray, List.set_cons_zero, List.set_cons_succ]
    refine take_to (i := 9) (oi := _) (v := ?_) (some 38) rfl (by kernel_rfl) (by kernel_rfl) (by kernel_rfl) (by kernel_rfl) (fun _ _ _ h => h) (Or.inl ⟨by kernel_rfl, ?_⟩) (by assumption) ?_
    case refine_2 => (intro w hSw; (try dsimp only at hSw); go_simp; try with_reducible rfl)
    try simp only [Act.put, List.setIfInBounds_toArray, List.set_cons_zero, List.set_cons_succ]
    refine take_to (i := 10) (oi := _) (v := ?_) (some 39) rfl (by kernel_rfl) (by kernel_rfl) (by kernel_rfl) (by kernel_rfl) (fun _ _ _ h => h) (Or.inl ⟨by kernel_rfl, ?_⟩) (by assumption) ?_
    case refine_2 => (intro w hSw; (try dsimp only at hSw); go_simp; try with_reducible rfl)
    try simp only [Act.put, List.setIfInBounds_toArray, List.set_cons_zero, List.set_cons_succ]
    refine take_to (i := 11) (oi := _) (v := ?_) (some 40) rfl (by kernel_rfl) (by kernel_rfl) (by kernel_rfl) (by kernel_rfl) (fun _ _ _ h => h) (Or.inl ⟨by kernel_rfl, ?_⟩) (by assumption) ?_
    case refine_2 => (intro w hSw; (try dsimp only at hSw); go_simp; try with_reducible rfl)
    try simp only [Act.put, List.setIfInBounds_toArray, List.set_cons_zero, List.set_cons_succ]
    refine take_to (i := 12) (oi := _) (v := ?_) (some 41) rfl (by kernel_rfl) (by kernel_rfl) (by kernel_rfl) (by kernel_rfl) (fun _ _ _ h => h) (Or.inl ⟨by kernel_rfl, ?_⟩) (by assumption) ?_
    case refine_2 => (intro w hSw; (try dsimp only at hSw); go_simp; try with_reducible rfl)
    try simp only [Act.put, List.setIfInBounds_toArray, List.set_cons_zero, List.set_cons_succ]
    refine wpAnyH_ready (rs := [13]) (by kernel_rfl) (by simp) ?_
    refine AllReadyH.cons (o := _) rfl (fun K hK => ?_) AllReadyH.nil
    go_simp
    refine (is_this _ _ _ _ _ _ (HF.out.kept ((Kept.alloc Nob w1 _).then (HB2.out.then ((Kept.alloc Nob w2 _).then hHeld))) (fun _ _ f => f)) (by omega) (by omega) (HTy.out.kept ((HK2.out.then (Kept.alloc Nob w2 _)).then hHeld) (fun f => f))).mono ?_
    rintro e x4 ⟨rfl, hk14⟩
    try go_wp2_with fail
    refine hK.out _ _ (hHeld.then hk14) (fun hHeld => ?_)
    clear hK K
    try simp only [Act.put, List.setIfInBounds_toArray, List.set_cons_zero, List.set_cons_succ]
    refine take_to (i := 14) (oi := _) (v := ?_) (some 43) rfl (by kernel_rfl) (by kernel_rfl) (by kernel_rfl) (by kernel_rfl) (fun _ _ _ h => h) (Or.inl ⟨by kernel_rfl, ?_⟩) (by assumption) ?_
    case refine_2 => (intro w hSw; (try dsimp only at hSw); go_simp; try with_reducible rfl)
    try simp only [Act.put, List.setIfInBounds_toArray, List.set_cons_zero, List.set_cons_succ]
    refine take_to (i := 15) (oi := _) (v := ?_) (some 44) rfl (by kernel_rfl) (by kernel_rfl) (by kernel_rfl) (by kernel_rfl) (fun _ _ _ h => h) (Or.inl ⟨by kernel_rfl, ?_⟩) (by assumption) ?_
    case refine_2 => (intro w hSw; (try dsimp only at hSw); go_simp; try with_reducible rfl)
    try simp only [Act.put, List.setIfInBounds_toArray, List.set_cons_zero, List.set_cons_succ]
    refine wpAnyH_ready (rs := [16]) (by kernel_rfl) (by simp) ?_
    refine AllReadyH.cons (o := _) rfl (fun K hK => ?_) AllReadyH.nil
    go_simp
    refine (HAw _ ((HK2.out.then (Kept.alloc Nob w2 _)).then hHeld)).out.mono ?_
    rintro e x5 ⟨rfl, hk15⟩
    try go_wp2_with fail
    refine hK.out _ _ (hHeld.then hk15) (fun hHeld => ?_)
    clear hK K
    try simp only [Act.put, List.setIfInBounds_toArray, List.set_cons_zero, List.set_cons_succ]
    refine take_to (i := 17) (oi := _) (v := ?_) (some 46) rfl (by kernel_rfl) (by kernel_rfl) (by kernel_rfl) (by kernel_rfl) (fun _ _ _ h => h) (Or.inl ⟨by kernel_rfl, ?_⟩) (by assumption) ?_
    case refine_2 => (intro w hSw; (try dsimp only at hSw); go_simp; try with_reducible rfl)
    try simp only [Act.put, List.setIfInBounds_toArray, List.set_cons_zero, List.set_cons_succ]
    refine take_to (i := 18) (oi := _) (v := ?_) (some 4) rfl (by kernel_rfl) (by kernel_rfl) (by kernel_rfl) (by kernel_rfl) (fun _ _ _ h => h) (Or.inl ⟨by kernel_rfl, ?_⟩) (by assumption) ?_
    case refine_2 => (intro w hSw; (try dsimp only at hSw); go_simp; try with_reducible rfl)
    try simp only [Act.put, List.setIfInBounds_toArray, List.set_cons_zero, List.set_cons_succ]
    refine wpAnyH_done (by kernel_rfl) ?_ _
    go_wp2_with fail
    go_ret
    exact ⟨by first | rfl | simp, (HK2.out.then (Kept.alloc Nob w2 _)).then hHeld⟩
end Go.Proofs.YthjiobmglebmdaaGreatDoor
