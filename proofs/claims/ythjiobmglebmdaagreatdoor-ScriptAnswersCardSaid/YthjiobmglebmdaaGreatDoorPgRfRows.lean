/- The document's own points and rows, written. -/
import Derived.Test.YthjiobmglebmdaaGreatDoorPgRfPts
namespace Go.Proofs.YthjiobmglebmdaaGreatDoor
open Go.RowKit
open Go.Proofs.YthjiobmglebmdaaGreatDoor.Geo Go.Proofs.YthjiobmglebmdaaGreatDoor.Txt

set_option maxHeartbeats 1000000 in
theorem ref_point (w : World) (x y : Int) (h : ok (x, y) = true) :
    Calls Tryz.prog 49 #[.agg #[.int .i64 x, .int .i64 y]] w fun e w' => e = .returned (strV (ptTxt (x, y))) ∧ Kept Nob w w' := by
  have r := ok_range h
  simp only at r
  have HX := fun (wx : World) (_ : Kept Nob w wx) => Lib.hid (ref_Decimal wx x ⟨r.1.1, r.1.2⟩)
  have HY := fun (wx : World) (_ : Kept Nob w wx) => Lib.hid (ref_Decimal wx y ⟨r.2.1, r.2.2⟩)
  have HT : Hid (strV (ptTxt (x, y)) = .string ((⟨(Lib.itoa x).toArray⟩ ++ ⟨#[44]⟩) ++ ⟨(Lib.itoa y).toArray⟩)) := Lib.hid (by
    have e1 := strV_append (Lib.itoa x) [44]
    have e2 := strV_append (Lib.itoa x ++ [44]) (Lib.itoa y)
    rw [show (⟨#[44]⟩ : ByteArray) = ⟨[44].toArray⟩ from rfl, e1, e2]
    simp [strV, ptTxt])
  clear h
  generalize ptTxt (x, y) = t at *
  unfold strV at HX HY
  have sx : (⟨(Lib.itoa x).toArray⟩ : ByteArray).size ≤ 21 := by show (Lib.itoa x).toArray.size ≤ 21; simpa using Lib.itoa_length_le x r.1.1 r.1.2
  have sy : (⟨(Lib.itoa y).toArray⟩ : ByteArray).size ≤ 21 := by show (Lib.itoa y).toArray.size ≤ 21; simpa using Lib.itoa_length_le y r.2.1 r.2.2
  clear r
  generalize (⟨(Lib.itoa x).toArray⟩ : ByteArray) = tx at *
  generalize (⟨(Lib.itoa y).toArray⟩ : ByteArray) = ty at *
  go_enter Tryz.func49, Tryz.ntmps49
  go_wp2_with fail
  refine wp_region_held_drew (S := (fun w' => w'.heap[w.heap.size]? = some (.cells #[.int .i64 x, .int .i64 y] 42 (0, 0)))) (by kernel_rfl) ?_ (fun hHeld => ?_)
  · exact heap_alloc_new w _
  refine take_to (i := 0) (oi := _) (v := ?_) (some 3) rfl (by kernel_rfl) (by kernel_rfl) (by kernel_rfl) (by kernel_rfl) (fun _ _ _ h => h) (Or.inl ⟨by kernel_rfl, ?_⟩) (by assumption) ?_
  case refine_2 => (intro w hSw; (try dsimp only at hSw); go_simp; (try rw [if_neg (by omega)]); try with_reducible rfl)
  try simp only [Act.put, List.setIfInBounds_toArray, List.set_cons_zero, List.set_cons_succ]
  refine take_to (i := 1) (oi := _) (v := ?_) (some 4) rfl (by kernel_rfl) (by kernel_rfl) (by kernel_rfl) (by kernel_rfl) (fun _ _ _ h => h) (Or.inl ⟨by kernel_rfl, ?_⟩) (by assumption) ?_
  case refine_2 => (intro w hSw; (try dsimp only at hSw); (have cc0 := cell_at hSw 0 _ rfl; have cc1 := cell_at hSw 1 _ rfl); go_simp; (try rw [if_neg (by omega)]); try with_reducible rfl)
  try simp only [Act.put, List.setIfInBounds_toArray, List.set_cons_zero, List.set_cons_succ]
  refine take_to (i := 4) (oi := _) (v := ?_) (some 7) rfl (by kernel_rfl) (by kernel_rfl) (by kernel_rfl) (by kernel_rfl) (fun _ _ _ h => h) (Or.inl ⟨by kernel_rfl, ?_⟩) (by assumption) ?_
  case refine_2 => (intro w hSw; (try dsimp only at hSw); go_simp; (try rw [if_neg (by omega)]); try with_reducible rfl)
  try simp only [Act.put, List.setIfInBounds_toArray, List.set_cons_zero, List.set_cons_succ]
  refine take_to (i := 5) (oi := _) (v := ?_) (some 8) rfl (by kernel_rfl) (by kernel_rfl) (by kernel_rfl) (by kernel_rfl) (fun _ _ _ h => h) (Or.inl ⟨by kernel_rfl, ?_⟩) (by assumption) ?_
  case refine_2 => (intro w hSw; (try dsimp only at hSw); (have cc0 := cell_at hSw 0 _ rfl; have cc1 := cell_at hSw 1 _ rfl); go_simp; (try rw [if_neg (by omega)]); try with_reducible rfl)
  try simp only [Act.put, List.setIfInBounds_toArray, List.set_cons_zero, List.set_cons_succ]
  refine wpAnyH_ready (rs := [2]) (by kernel_rfl) (by simp) ?_
  refine AllReadyH.cons (o := _) rfl (fun K hK => ?_) AllReadyH.nil
  go_simp
  go_at_call 30
  refine (HX _ ((Kept.alloc Nob w _).then (Kept.drew Nob _))).out.mono ?_
  rintro e w1 ⟨rfl, hk1⟩
  have HK := Lib.hid (((Kept.alloc Nob w _).then (Kept.drew Nob _)).then hk1)
  try go_wp2_with fail
  refine hK.out _ _ ((hk1.block _ (Array.getElem?_eq_some_iff.1 hHeld).1 (fun f => f)).trans hHeld) (fun hHeld => ?_)
  clear hK K
  try simp only [Act.put, List.setIfInBounds_toArray, List.set_cons_zero, List.set_cons_succ]
  refine take_to (i := 3) (oi := _) (v := ?_) (some 6) rfl (by kernel_rfl) (by kernel_rfl) (by kernel_rfl) (by kernel_rfl) (fun _ _ _ h => h) (Or.inl ⟨by kernel_rfl, ?_⟩) (by assumption) ?_
  case refine_2 => (intro w hSw; (try dsimp only at hSw); go_simp; (try rw [if_neg (by omega)]); try with_reducible rfl)
  try simp only [Act.put, List.setIfInBounds_toArray, List.set_cons_zero, List.set_cons_succ]
  refine wpAnyH_ready (rs := [6]) (by kernel_rfl) (by simp) ?_
  refine AllReadyH.cons (o := _) rfl (fun K hK => ?_) AllReadyH.nil
  go_simp
  go_at_call 30
  refine (HY _ HK.out).out.mono ?_
  rintro e w2 ⟨rfl, hk2⟩
  have HK2 := Lib.hid (HK.out.then hk2)
  try go_wp2_with fail
  refine hK.out _ _ ((hk2.block _ (Array.getElem?_eq_some_iff.1 hHeld).1 (fun f => f)).trans hHeld) (fun hHeld => ?_)
  clear hK K
  try simp only [Act.put, List.setIfInBounds_toArray, List.set_cons_zero, List.set_cons_succ]
  refine take_to (i := 7) (oi := _) (v := ?_) (some 10) rfl (by kernel_rfl) (by kernel_rfl) (by kernel_rfl) (by kernel_rfl) (fun _ _ _ h => h) (Or.inl ⟨by kernel_rfl, ?_⟩) (by assumption) ?_
  case refine_2 => (intro w hSw; (try dsimp only at hSw); go_simp; (try rw [if_neg (by omega)]); try with_reducible rfl)
  try simp only [Act.put, List.setIfInBounds_toArray, List.set_cons_zero, List.set_cons_succ]
  refine take_to (i := 8) (oi := _) (v := ?_) (some 2) rfl (by kernel_rfl) (by kernel_rfl) (by kernel_rfl) (by kernel_rfl) (fun _ _ _ h => h) (Or.inl ⟨by kernel_rfl, ?_⟩) (by assumption) ?_
  case refine_2 => (intro w hSw; (try dsimp only at hSw); go_simp; (try rw [if_neg (by omega)]); try with_reducible rfl)
  try simp only [Act.put, List.setIfInBounds_toArray, List.set_cons_zero, List.set_cons_succ]
  refine wpAnyH_done (by kernel_rfl) ?_ _
  go_wp2_with fail
  go_ret
  exact ⟨by rw [HT.out]; rfl, HK2.out⟩


/-- the points of a row, each with a blank ahead -/
def rowsTxt (l : List Pt) : List UInt8 := Lib.joinTail [32] (l.map ptTxt)
theorem rows_len {l : List Pt} (hl : l.length ≤ 64) (ho : ∀ p ∈ l, ok p = true) (k : Nat) : (rowsTxt (l.take k)).length ≤ 5000 := by
  have h := words_len (word := []) (l := l) (by simp) hl ho
  rw [Lib.join_cons] at h
  have h2 := Lib.joinTail_take_le [32] (l.map ptTxt) k
  unfold rowsTxt
  rw [List.map_take]
  simp at h
  omega
theorem rows_step {l : List Pt} {k : Nat} (hk : k < l.length) : rowsTxt (l.take (k + 1)) = rowsTxt (l.take k) ++ [32] ++ ptTxt l[k] := by
  unfold rowsTxt
  rw [List.map_take, List.map_take, Lib.joinTail_take_succ [32] (l.map ptTxt) k (ptTxt l[k]) (by simp [hk])]
set_option maxHeartbeats 4000000 in
theorem ref_rows (w : World) (v : Value) (l : List Pt) (F : Nat → Prop) (h : PtsAt w v l F) (hl : l.length ≤ 64) (ho : ∀ p ∈ l, ok p = true) :
    Calls Tryz.prog 47 #[v] w fun e w' => e = .returned (strV (rowsTxt l)) ∧ Kept Nob w w' := by
  obtain ⟨a, cap, rfl⟩ := h.shape
  have HP := Lib.hid h
  have HO := Lib.hid ho
  have HL := Lib.hid (rows_len hl ho)
  clear h ho
  go_enter Tryz.func47, Tryz.ntmps47
  go_wp2_with fail
  go_loopw [3, 4] (fun o i wr => ∃ k : Nat, k ≤ l.length ∧ i = .int .i64 k ∧ o = strV (rowsTxt (l.take k)) ∧ Kept Nob w wr) (fun _ i _ => l.length - (intOf i).toNat)
  case atStart => exact ⟨0, Nat.zero_le _, rfl, rfl, Kept.refl _ _⟩
  case round =>
    obtain ⟨k, hk, rfl, rfl, hw⟩ := hrel
    have HW := Lib.hid hw
    clear hw
    obtain ⟨xv, hxv⟩ : ∃ u, (⟨(rowsTxt (l.take k)).toArray⟩ : ByteArray) = u := ⟨_, rfl⟩
    have hxs : xv.size ≤ 5000 := by rw [← hxv]; simpa [ByteArray.size] using HL.out k
    have HXv := Lib.hid hxv
    unfold strV
    rw [hxv]
    clear hxv
    by_cases hlt : k < l.length
    · obtain ⟨b, o, rfl, -, hb, -, c0, c1⟩ := (HP.out.nob HW.out).at (List.getElem?_eq_getElem hlt)
      have HT := Lib.hid (rows_step hlt)
      have HPo := fun (wx : World) => Lib.hid (ref_point wx l[k].1 l[k].2 (HO.out _ (List.getElem_mem hlt)))
      have hpl := ptTxt_len (HO.out _ (List.getElem_mem hlt))
      generalize l[k] = pk at *
      obtain ⟨x, y⟩ := pk
      simp only at c0 c1 HPo
      obtain ⟨pv, hpv⟩ : ∃ u, (⟨(ptTxt (x, y)).toArray⟩ : ByteArray) = u := ⟨_, rfl⟩
      have hps : pv.size ≤ 43 := by rw [← hpv]; simpa [ByteArray.size] using hpl
      unfold strV at HPo
      rw [hpv] at HPo
      have HPv := Lib.hid hpv
      clear hpv hpl
      go_wp2_with fail
      refine (HPo _).out.mono ?_
      rintro e w1 ⟨rfl, hk1⟩
      have HW1 := Lib.hid (HW.out.then hk1)
      clear hk1
      go_wp2_with fail
      go_roundw
      case rel =>
        refine ⟨k + 1, by omega, by go_num, ?_, HW1.out⟩
        rw [HT.out]
        have e1 := strV_append (rowsTxt (l.take k)) [32]
        have e2 := strV_append (rowsTxt (l.take k) ++ [32]) (ptTxt (x, y))
        rw [← e2, ← e1, HXv.out, HPv.out]
      case measure => simp [intOf]; omega
    · obtain rfl : k = l.length := by omega
      go_wp2_with fail
      go_ret
      exact ⟨by rw [← HXv.out, List.take_length]; rfl, HW.out⟩
end Go.Proofs.YthjiobmglebmdaaGreatDoor
