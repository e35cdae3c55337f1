/- The document's own objects, written. -/
import Derived.Test.YthjiobmglebmdaaGreatDoorPgRfRows
import Derived.Test.YthjiobmglebmdaaGreatDoorPgRfSame
namespace Go.Proofs.YthjiobmglebmdaaGreatDoor
open Go.RowKit
open Go.Proofs.YthjiobmglebmdaaGreatDoor.Geo Go.Proofs.YthjiobmglebmdaaGreatDoor.Txt

set_option maxRecDepth 100000 in
set_option maxHeartbeats 4000000 in
theorem ref_Object (w : World) (k : Int) (v : Value) (l : List Pt) (F : Nat → Prop) (h : PtsAt w v l F) (hl : l.length < 1000000000) :
    Calls Tryz.prog 22 #[.agg #[.int .i64 k, v]] w fun e w' => e = .returned (strV (obText ⟨k, l⟩)) ∧ Kept Nob w w' := by
  obtain ⟨a, cap, rfl⟩ := h.shape
  have HP := Lib.hid h
  have HC := fun (wx : World) (kx : Kept Nob w wx) => Lib.hid (ref_Check wx k _ l F (h.nob kx) hl)
  clear h
  by_cases hok : ObOk ⟨k, l⟩
  case neg =>
    have HN : Hid (strV (obText ⟨k, l⟩) = .string ⟨#[]⟩) := Lib.hid (by rw [obText_no hok]; rfl)
    have HO := Lib.hid hok
    clear hok
    generalize ObOk ⟨k, l⟩ = p at *
    go_enter Tryz.func22, Tryz.ntmps22
    go_wp2_with fail
    refine (HC _ (Kept.alloc Nob _ _)).out.mono ?_
    rintro e w1 ⟨u, rfl, hu, hk⟩
    have HK := Lib.hid ((Kept.alloc Nob _ _).then hk)
    have hu0 : u ≠ 0 := fun e => HO.out (hu.1 e)
    have hub : (u == 0) = false := by simp [hu0]
    clear hu hk
    go_wp2_with fail
    go_ret
    exact ⟨by rw [HN.out]; rfl, HK.out⟩
  case pos =>
    have HO := Lib.hid hok
    have hl64 := hok.len.2
    have hall := hok.pts_ok
    have HL := Lib.hid hl64
    have HA := Lib.hid hall
    clear hl64 hall
    have HW := fun (wx : World) (kx : Kept Nob w wx) => Lib.hid (ref_rows wx _ l F (HP.out.nob kx) HL.out HA.out)
    have cases4 : k = 1 ∨ k = 2 ∨ k = 3 ∨ k = 4 := by
      rcases hok with h | h | h | h
      · exact .inl h.1
      · exact .inr (.inl h.1)
      · exact .inr (.inr (.inl h.1))
      · exact .inr (.inr (.inr h.1))
    rcases cases4 with rfl | rfl | rfl | rfl
    · have HT : Hid (obText ⟨1, l⟩ = wPoint ++ rowsTxt l) := Lib.hid (by rw [obText_plain hok (by omega), Lib.join_cons]; rfl)
      have hrs := rows_len HL.out HA.out l.length
      rw [List.take_length] at hrs
      obtain ⟨xv, hxv⟩ : ∃ u, (⟨(rowsTxt l).toArray⟩ : ByteArray) = u := ⟨_, rfl⟩
      have hxs : xv.size ≤ 5000 := by rw [← hxv]; simpa [ByteArray.size] using hrs
      have HXv := Lib.hid hxv
      have HW1 := HW
      unfold strV at HW1
      rw [hxv] at HW1
      clear hok HW hxv hrs
      go_enter Tryz.func22, Tryz.ntmps22
      go_wp2_with fail
      refine (HC _ (Kept.alloc Nob _ _)).out.mono ?_
      rintro e w1 ⟨u, rfl, hu, hk⟩
      obtain rfl : u = 0 := hu.2 HO.out
      have b1 := new1 hk
      have c0 := cell_at b1 0 _ rfl
      have c1 := cell_at b1 1 _ rfl
      have HK := Lib.hid ((Kept.alloc Nob _ _).then hk)
      clear hu hk b1
      go_wp2_with fail
      refine (HW1 _ HK.out).out.mono ?_
      rintro e w2 ⟨rfl, hk2⟩
      have HK2 := Lib.hid (HK.out.then hk2)
      clear hk2
      go_wp2_with fail
      go_ret
      exact ⟨by rw [HT.out, ← HXv.out]; unfold strV; rw [← strV_append]; rfl, HK2.out⟩
    · obtain ⟨p, rfl, hp, hxy⟩ := (ob2 l).1 hok
      obtain ⟨x, y⟩ := p
      have HT := Lib.hid (obText_two hok)
      obtain ⟨b, o, rfl, -, hb, -, c0, c1⟩ := HP.out.at (i := 0) (p := (x, y)) rfl
      simp only [Nat.zero_mul, Nat.add_zero] at c0 c1
      have r := ok_range hp
      simp only at r
      have HX := fun (wx : World) (_ : Kept Nob w wx) => Lib.hid (ref_Decimal wx x ⟨r.1.1, r.1.2⟩)
      have HY := fun (wx : World) (_ : Kept Nob w wx) => Lib.hid (ref_Decimal wx y ⟨r.2.1, r.2.2⟩)
      have HT2 : Hid (strV (obText ⟨2, [(x, y)]⟩) = .string (((⟨#[105, 110, 116, 101, 114, 118, 97, 108, 32]⟩ ++ ⟨(Lib.itoa x).toArray⟩) ++ ⟨#[32]⟩) ++ ⟨(Lib.itoa y).toArray⟩)) := Lib.hid (by
        rw [HT.out]
        have e1 := strV_append [105, 110, 116, 101, 114, 118, 97, 108, 32] (Lib.itoa x)
        have e2 := strV_append ([105, 110, 116, 101, 114, 118, 97, 108, 32] ++ Lib.itoa x) [32]
        have e3 := strV_append ([105, 110, 116, 101, 114, 118, 97, 108, 32] ++ Lib.itoa x ++ [32]) (Lib.itoa y)
        rw [show (⟨#[105, 110, 116, 101, 114, 118, 97, 108, 32]⟩ : ByteArray) = ⟨[105, 110, 116, 101, 114, 118, 97, 108, 32].toArray⟩ from rfl, show (⟨#[32]⟩ : ByteArray) = ⟨[32].toArray⟩ from rfl, e1, e2, e3]
        simp [strV, wInterval])
      unfold strV at HX HY
      have sx : (⟨(Lib.itoa x).toArray⟩ : ByteArray).size ≤ 21 := by show (Lib.itoa x).toArray.size ≤ 21; simpa using Lib.itoa_length_le x r.1.1 r.1.2
      have sy : (⟨(Lib.itoa y).toArray⟩ : ByteArray).size ≤ 21 := by show (Lib.itoa y).toArray.size ≤ 21; simpa using Lib.itoa_length_le y r.2.1 r.2.2
      clear r hok HW HT hp hxy HL HA HP
      generalize (⟨(Lib.itoa x).toArray⟩ : ByteArray) = tx at *
      generalize (⟨(Lib.itoa y).toArray⟩ : ByteArray) = ty at *
      generalize strV (obText ⟨2, [(x, y)]⟩) = res at *
      have C0 := fun (wx : World) (kx : Kept Nob w wx) => Lib.hid ((kx.cell (p := ⟨b, o, none⟩) hb (fun f => f)).trans c0)
      have C1 := fun (wx : World) (kx : Kept Nob w wx) => Lib.hid ((kx.cell (p := ⟨b, o + 1, none⟩) hb (fun f => f)).trans c1)
      clear c0 c1
      go_enter Tryz.func22, Tryz.ntmps22
      go_wp2_with fail
      refine (HC _ (Kept.alloc Nob _ _)).out.mono ?_
      rintro e w1 ⟨u, rfl, hu, hk⟩
      obtain rfl : u = 0 := hu.2 HO.out
      have b1 := new1 hk
      have c0 := cell_at b1 0 _ rfl
      have c1 := cell_at b1 1 _ rfl
      have HK := Lib.hid ((Kept.alloc Nob _ _).then hk)
      clear hu hk b1
      have d0 := (C0 _ HK.out).out
      have d1 := (C1 _ HK.out).out
      go_wp2_with fail
      refine wp_region_held_drew (S := (fun w' => w'.cell? ⟨w.heap.size, 1, none⟩ = some (.slice (some ⟨b, o, none⟩) 1 cap) ∧ w'.cell? ⟨b, o, none⟩ = some (.int .i64 x) ∧ w'.cell? ⟨b, o + 1, none⟩ = some (.int .i64 y))) (by kernel_rfl) ?_ (fun hHeld => ?_)
      · exact ⟨c1, d0, d1⟩
      refine take_to (i := 0) (oi := _) (v := ?_) (some 16) rfl (by kernel_rfl) (by kernel_rfl) (by kernel_rfl) (by kernel_rfl) (fun _ _ _ h => h) (Or.inl ⟨by kernel_rfl, ?_⟩) (by assumption) ?_
      case refine_2 => (intro w hSw; (try dsimp only at hSw); go_simp; (try rw [if_neg (by omega)]); try with_reducible rfl)
      try simp only [Act.put, List.setIfInBounds_toArray, List.set_cons_zero, List.set_cons_succ]
      refine take_to (i := 1) (oi := _) (v := ?_) (some 17) rfl (by kernel_rfl) (by kernel_rfl) (by kernel_rfl) (by kernel_rfl) (fun _ _ _ h => h) (Or.inl ⟨by kernel_rfl, ?_⟩) (by assumption) ?_
      case refine_2 => (intro w hSw; (try dsimp only at hSw); (obtain ⟨cc0, cc1, cc2⟩ := hSw); go_simp; (try rw [if_neg (by omega)]); try with_reducible rfl)
      try simp only [Act.put, List.setIfInBounds_toArray, List.set_cons_zero, List.set_cons_succ]
      refine take_to (i := 2) (oi := _) (v := ?_) (some 18) rfl (by kernel_rfl) (by kernel_rfl) (by kernel_rfl) (by kernel_rfl) (fun _ _ _ h => h) (Or.inl ⟨by kernel_rfl, ?_⟩) (by assumption) ?_
      case refine_2 => (intro w hSw; (try dsimp only at hSw); go_simp; (try rw [if_neg (by omega)]); try with_reducible rfl)
      try simp only [Act.put, List.setIfInBounds_toArray, List.set_cons_zero, List.set_cons_succ]
      refine take_to (i := 3) (oi := _) (v := ?_) (some 19) rfl (by kernel_rfl) (by kernel_rfl) (by kernel_rfl) (by kernel_rfl) (fun _ _ _ h => h) (Or.inl ⟨by kernel_rfl, ?_⟩) (by assumption) ?_
      case refine_2 => (intro w hSw; (try dsimp only at hSw); go_simp; (try rw [if_neg (by omega)]); try with_reducible rfl)
      try simp only [Act.put, List.setIfInBounds_toArray, List.set_cons_zero, List.set_cons_succ]
      refine take_to (i := 4) (oi := _) (v := ?_) (some 20) rfl (by kernel_rfl) (by kernel_rfl) (by kernel_rfl) (by kernel_rfl) (fun _ _ _ h => h) (Or.inl ⟨by kernel_rfl, ?_⟩) (by assumption) ?_
      case refine_2 => (intro w hSw; (try dsimp only at hSw); (obtain ⟨cc0, cc1, cc2⟩ := hSw); go_simp; (try rw [if_neg (by omega)]); try with_reducible rfl)
      try simp only [Act.put, List.setIfInBounds_toArray, List.set_cons_zero, List.set_cons_succ]
      refine take_to (i := 8) (oi := _) (v := ?_) (some 24) rfl (by kernel_rfl) (by kernel_rfl) (by kernel_rfl) (by kernel_rfl) (fun _ _ _ h => h) (Or.inl ⟨by kernel_rfl, ?_⟩) (by assumption) ?_
      case refine_2 => (intro w hSw; (try dsimp only at hSw); go_simp; (try rw [if_neg (by omega)]); try with_reducible rfl)
      try simp only [Act.put, List.setIfInBounds_toArray, List.set_cons_zero, List.set_cons_succ]
      refine take_to (i := 9) (oi := _) (v := ?_) (some 25) rfl (by kernel_rfl) (by kernel_rfl) (by kernel_rfl) (by kernel_rfl) (fun _ _ _ h => h) (Or.inl ⟨by kernel_rfl, ?_⟩) (by assumption) ?_
      case refine_2 => (intro w hSw; (try dsimp only at hSw); (obtain ⟨cc0, cc1, cc2⟩ := hSw); go_simp; (try rw [if_neg (by omega)]); try with_reducible rfl)
      try simp only [Act.put, List.setIfInBounds_toArray, List.set_cons_zero, List.set_cons_succ]
      refine take_to (i := 10) (oi := _) (v := ?_) (some 26) rfl (by kernel_rfl) (by kernel_rfl) (by kernel_rfl) (by kernel_rfl) (fun _ _ _ h => h) (Or.inl ⟨by kernel_rfl, ?_⟩) (by assumption) ?_
      case refine_2 => (intro w hSw; (try dsimp only at hSw); go_simp; (try rw [if_neg (by omega)]); try with_reducible rfl)
      try simp only [Act.put, List.setIfInBounds_toArray, List.set_cons_zero, List.set_cons_succ]
      refine take_to (i := 11) (oi := _) (v := ?_) (some 27) rfl (by kernel_rfl) (by kernel_rfl) (by kernel_rfl) (by kernel_rfl) (fun _ _ _ h => h) (Or.inl ⟨by kernel_rfl, ?_⟩) (by assumption) ?_
      case refine_2 => (intro w hSw; (try dsimp only at hSw); go_simp; (try rw [if_neg (by omega)]); try with_reducible rfl)
      try simp only [Act.put, List.setIfInBounds_toArray, List.set_cons_zero, List.set_cons_succ]
      refine take_to (i := 12) (oi := _) (v := ?_) (some 28) rfl (by kernel_rfl) (by kernel_rfl) (by kernel_rfl) (by kernel_rfl) (fun _ _ _ h => h) (Or.inl ⟨by kernel_rfl, ?_⟩) (by assumption) ?_
      case refine_2 => (intro w hSw; (try dsimp only at hSw); (obtain ⟨cc0, cc1, cc2⟩ := hSw); go_simp; (try rw [if_neg (by omega)]); try with_reducible rfl)
      try simp only [Act.put, List.setIfInBounds_toArray, List.set_cons_zero, List.set_cons_succ]
      refine wpAnyH_ready (rs := [5]) (by kernel_rfl) (by simp) ?_
      refine AllReadyH.cons (o := _) rfl (fun K hK => ?_) AllReadyH.nil
      go_simp
      go_at_call 30
      refine (HX _ (HK.out.then (Kept.drew Nob _))).out.mono ?_
      rintro e w2 ⟨rfl, hk2⟩
      have HK2 := Lib.hid ((HK.out.then (Kept.drew Nob _)).then hk2)
      try go_wp2_with fail
      refine hK.out _ _ (⟨(hk2.cell (p := ⟨w.heap.size, 1, none⟩) (cell_lt hHeld.1) (fun f => f)).trans hHeld.1, (hk2.cell (p := ⟨b, o, none⟩) (cell_lt hHeld.2.1) (fun f => f)).trans hHeld.2.1, (hk2.cell (p := ⟨b, o + 1, none⟩) (cell_lt hHeld.2.2) (fun f => f)).trans hHeld.2.2⟩) (fun hHeld => ?_)
      clear hK K
      try simp only [Act.put, List.setIfInBounds_toArray, List.set_cons_zero, List.set_cons_succ]
      refine take_to (i := 6) (oi := _) (v := ?_) (some 22) rfl (by kernel_rfl) (by kernel_rfl) (by kernel_rfl) (by kernel_rfl) (fun _ _ _ h => h) (Or.inl ⟨by kernel_rfl, ?_⟩) (by assumption) ?_
      case refine_2 => (intro w hSw; (try dsimp only at hSw); go_simp; (try rw [if_neg (by omega)]); try with_reducible rfl)
      try simp only [Act.put, List.setIfInBounds_toArray, List.set_cons_zero, List.set_cons_succ]
      refine take_to (i := 7) (oi := _) (v := ?_) (some 23) rfl (by kernel_rfl) (by kernel_rfl) (by kernel_rfl) (by kernel_rfl) (fun _ _ _ h => h) (Or.inl ⟨by kernel_rfl, ?_⟩) (by assumption) ?_
      case refine_2 => (intro w hSw; (try dsimp only at hSw); go_simp; (try rw [if_neg (by omega)]); try with_reducible rfl)
      try simp only [Act.put, List.setIfInBounds_toArray, List.set_cons_zero, List.set_cons_succ]
      refine wpAnyH_ready (rs := [13]) (by kernel_rfl) (by simp) ?_
      refine AllReadyH.cons (o := _) rfl (fun K hK => ?_) AllReadyH.nil
      go_simp
      go_at_call 30
      refine (HY _ HK2.out).out.mono ?_
      rintro e w3 ⟨rfl, hk3⟩
      have HK3 := Lib.hid (HK2.out.then hk3)
      try go_wp2_with fail
      refine hK.out _ _ (⟨(hk3.cell (p := ⟨w.heap.size, 1, none⟩) (cell_lt hHeld.1) (fun f => f)).trans hHeld.1, (hk3.cell (p := ⟨b, o, none⟩) (cell_lt hHeld.2.1) (fun f => f)).trans hHeld.2.1, (hk3.cell (p := ⟨b, o + 1, none⟩) (cell_lt hHeld.2.2) (fun f => f)).trans hHeld.2.2⟩) (fun hHeld => ?_)
      clear hK K
      try simp only [Act.put, List.setIfInBounds_toArray, List.set_cons_zero, List.set_cons_succ]
      refine take_to (i := 14) (oi := _) (v := ?_) (some 30) rfl (by kernel_rfl) (by kernel_rfl) (by kernel_rfl) (by kernel_rfl) (fun _ _ _ h => h) (Or.inl ⟨by kernel_rfl, ?_⟩) (by assumption) ?_
      case refine_2 => (intro w hSw; (try dsimp only at hSw); go_simp; (try rw [if_neg (by omega)]); try with_reducible rfl)
      try simp only [Act.put, List.setIfInBounds_toArray, List.set_cons_zero, List.set_cons_succ]
      refine take_to (i := 15) (oi := _) (v := ?_) (some 2) rfl (by kernel_rfl) (by kernel_rfl) (by kernel_rfl) (by kernel_rfl) (fun _ _ _ h => h) (Or.inl ⟨by kernel_rfl, ?_⟩) (by assumption) ?_
      case refine_2 => (intro w hSw; (try dsimp only at hSw); go_simp; (try rw [if_neg (by omega)]); try with_reducible rfl)
      try simp only [Act.put, List.setIfInBounds_toArray, List.set_cons_zero, List.set_cons_succ]
      refine wpAnyH_done (by kernel_rfl) ?_ _
      go_wp2_with fail
      go_ret
      exact ⟨by rw [HT2.out]; rfl, HK3.out⟩
    · have HT : Hid (obText ⟨3, l⟩ = wBox ++ rowsTxt l) := Lib.hid (by rw [obText_plain hok (by omega), Lib.join_cons]; rfl)
      have hrs := rows_len HL.out HA.out l.length
      rw [List.take_length] at hrs
      obtain ⟨xv, hxv⟩ : ∃ u, (⟨(rowsTxt l).toArray⟩ : ByteArray) = u := ⟨_, rfl⟩
      have hxs : xv.size ≤ 5000 := by rw [← hxv]; simpa [ByteArray.size] using hrs
      have HXv := Lib.hid hxv
      have HW1 := HW
      unfold strV at HW1
      rw [hxv] at HW1
      clear hok HW hxv hrs
      go_enter Tryz.func22, Tryz.ntmps22
      go_wp2_with fail
      refine (HC _ (Kept.alloc Nob _ _)).out.mono ?_
      rintro e w1 ⟨u, rfl, hu, hk⟩
      obtain rfl : u = 0 := hu.2 HO.out
      have b1 := new1 hk
      have c0 := cell_at b1 0 _ rfl
      have c1 := cell_at b1 1 _ rfl
      have HK := Lib.hid ((Kept.alloc Nob _ _).then hk)
      clear hu hk b1
      go_wp2_with fail
      refine (HW1 _ HK.out).out.mono ?_
      rintro e w2 ⟨rfl, hk2⟩
      have HK2 := Lib.hid (HK.out.then hk2)
      clear hk2
      go_wp2_with fail
      go_ret
      exact ⟨by rw [HT.out, ← HXv.out]; unfold strV; rw [← strV_append]; rfl, HK2.out⟩
    · have HT : Hid (obText ⟨4, l⟩ = wPoly ++ rowsTxt l) := Lib.hid (by rw [obText_plain hok (by omega), Lib.join_cons]; rfl)
      have hrs := rows_len HL.out HA.out l.length
      rw [List.take_length] at hrs
      obtain ⟨xv, hxv⟩ : ∃ u, (⟨(rowsTxt l).toArray⟩ : ByteArray) = u := ⟨_, rfl⟩
      have hxs : xv.size ≤ 5000 := by rw [← hxv]; simpa [ByteArray.size] using hrs
      have HXv := Lib.hid hxv
      have HW1 := HW
      unfold strV at HW1
      rw [hxv] at HW1
      clear hok HW hxv hrs
      go_enter Tryz.func22, Tryz.ntmps22
      go_wp2_with fail
      refine (HC _ (Kept.alloc Nob _ _)).out.mono ?_
      rintro e w1 ⟨u, rfl, hu, hk⟩
      obtain rfl : u = 0 := hu.2 HO.out
      have b1 := new1 hk
      have c0 := cell_at b1 0 _ rfl
      have c1 := cell_at b1 1 _ rfl
      have HK := Lib.hid ((Kept.alloc Nob _ _).then hk)
      clear hu hk b1
      go_wp2_with fail
      refine (HW1 _ HK.out).out.mono ?_
      rintro e w2 ⟨rfl, hk2⟩
      have HK2 := Lib.hid (HK.out.then hk2)
      clear hk2
      go_wp2_with fail
      go_ret
      exact ⟨by rw [HT.out, ← HXv.out]; unfold strV; rw [← strV_append]; rfl, HK2.out⟩
end Go.Proofs.YthjiobmglebmdaaGreatDoor
