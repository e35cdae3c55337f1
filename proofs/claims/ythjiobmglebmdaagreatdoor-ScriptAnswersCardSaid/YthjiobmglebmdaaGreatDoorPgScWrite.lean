/- script: points, objects and queries as texts. -/
import Derived.Test.YthjiobmglebmdaaGreatDoorPgScStr
namespace Go.Proofs.YthjiobmglebmdaaGreatDoor
open Go.RowKit
open Go.Proofs.YthjiobmglebmdaaGreatDoor.Geo Go.Proofs.YthjiobmglebmdaaGreatDoor.Txt

theorem tStrs : Plain Tryz.prog 29 9 (.string ByteArray.empty) 16 := Plain.of Tryz.underlying29 (by kernel_rfl) rfl
theorem Own.new (w : World) (cs : List Value) (e : TypeId) (n : Nat) (hn : cs.length = n) (hm : n ≤ maxLen) : Own (w.alloc (.cells cs.toArray e)) e (.slice (some ⟨w.heap.size, 0, none⟩) n n) cs (From w.heap.size) :=
  ⟨⟨by simp, .inr ⟨w.heap.size, n, cs.toArray, by simp [hn], Nat.zero_le _, heap_alloc_new w _, by omega, hm, by simp [hn], by simp⟩⟩, fun g hg => by simp [Value.ownBlock] at hg; show _ ≤ _; omega⟩
theorem Own.step {w w1 w2 : World} {e : TypeId} {v v2 : Value} {xs ys : List Value} (h : Own w1 e v xs (From w.heap.size)) (hk : Kept Nob w w1) (h2 : Own w2 e v2 ys (fun k => v.ownBlock = some k ∨ w1.heap.size ≤ k))
    (hk2 : Kept (fun k => v.ownBlock = some k) w1 w2) : Own w2 e v2 ys (From w.heap.size) ∧ Kept Nob w w2 :=
  ⟨h2.mono fun k _ hj => by
    rcases hj with hj | hj
    · exact h.2 k hj
    · exact Nat.le_trans hk.size hj, hk.from (Nat.le_refl _) (hk2.mono fun k _ hj => h.2 k hj)⟩

theorem ptTxt_len {p : Pt} (h : ok p = true) : (ptTxt p).length ≤ 43 := by
  have r := ok_range h
  have a := Lib.itoa_length_le p.1 r.1.1 r.1.2
  have b := Lib.itoa_length_le p.2 r.2.1 r.2.2
  unfold ptTxt
  simp only [List.length_append, List.length_cons]
  omega
theorem lens_le {B : Nat} : ∀ {l : List (List UInt8)}, (∀ x ∈ l, x.length ≤ B) → Lib.lens l ≤ B * l.length
  | [], _ => by simp [Lib.lens]
  | x :: r, h => by
    have h1 := h x (by simp)
    have h2 := lens_le (l := r) (fun y hy => h y (by simp [hy]))
    simp only [Lib.lens, List.map_cons, List.sum_cons, List.length_cons] at h2 ⊢
    rw [Nat.mul_add, Nat.mul_one]
    omega
theorem join_len {B : Nat} {l : List (List UInt8)} (h : ∀ x ∈ l, x.length ≤ B) : (Lib.join l [32]).length ≤ (B + 1) * l.length := by
  cases l with
  | nil => simp [Lib.join_nil]
  | cons x r =>
    rw [Lib.join_length]
    have := lens_le h
    simp only [List.length_cons, List.length_nil] at this ⊢
    have e : (B + 1) * (r.length + 1) = B * (r.length + 1) + (r.length + 1) := Nat.succ_mul _ _
    omega
theorem words_len {word : List UInt8} {l : List Pt} (hw : word.length ≤ 43) (hl : l.length ≤ 64) (ho : ∀ p ∈ l, ok p = true) : (Lib.join (word :: l.map ptTxt) [32]).length ≤ 5000 := by
  have := join_len (B := 43) (l := word :: l.map ptTxt) (fun x hx => by
    simp only [List.mem_cons, List.mem_map] at hx
    rcases hx with rfl | ⟨p, hp, rfl⟩
    · exact hw
    · exact ptTxt_len (ho p hp))
  simp only [List.length_cons, List.length_map] at this
  omega

set_option maxHeartbeats 1000000 in
theorem script_point (w : World) (x y : Int) (h : ok (x, y) = true) (hE : Env w) :
    Calls Tryz.prog 65 #[.agg #[.int .i64 x, .int .i64 y]] w fun e w' => e = .returned (strV (ptTxt (x, y))) ∧ Kept Nob w w' := by
  have r := ok_range h
  simp only at r
  have HX := fun (wx : World) (kx : Kept Nob w wx) => Lib.hid (str_itoa wx x r.1.1 r.1.2 (hE.kept kx))
  have HY := fun (wx : World) (kx : Kept Nob w wx) => Lib.hid (str_itoa wx y r.2.1 r.2.2 (hE.kept kx))
  have HT : Hid (strV (ptTxt (x, y)) = .string ((⟨(Lib.itoa x).toArray⟩ ++ ⟨#[44]⟩) ++ ⟨(Lib.itoa y).toArray⟩)) := Lib.hid (by
    have e1 := strV_append (Lib.itoa x) [44]
    have e2 := strV_append (Lib.itoa x ++ [44]) (Lib.itoa y)
    rw [show (⟨#[44]⟩ : ByteArray) = ⟨[44].toArray⟩ from rfl, e1, e2]
    simp [strV, ptTxt])
  clear h hE
  generalize ptTxt (x, y) = t at *
  unfold strV at HX HY
  have sx : (⟨(Lib.itoa x).toArray⟩ : ByteArray).size ≤ 21 := by show (Lib.itoa x).toArray.size ≤ 21; simpa using Lib.itoa_length_le x r.1.1 r.1.2
  have sy : (⟨(Lib.itoa y).toArray⟩ : ByteArray).size ≤ 21 := by show (Lib.itoa y).toArray.size ≤ 21; simpa using Lib.itoa_length_le y r.2.1 r.2.2
  clear r
  generalize (⟨(Lib.itoa x).toArray⟩ : ByteArray) = tx at *
  generalize (⟨(Lib.itoa y).toArray⟩ : ByteArray) = ty at *
  go_enter Tryz.func65, Tryz.ntmps65
  go_wp2_with fail
  refine wp_region_held_drew (S := (fun w' => w'.heap[w.heap.size]? = some (.cells #[.int .i64 x, .int .i64 y] 42 (0, 0)))) (by kernel_rfl) ?_ (fun hHeld => ?_)
  · exact heap_alloc_new w _
  refine take_to (i := 0) (oi := _) (v := ?_) (some 3) rfl (by kernel_rfl) (by kernel_rfl) (by kernel_rfl) (by kernel_rfl) (fun _ _ _ h => h) (Or.inl ⟨by kernel_rfl, ?_⟩) (by assumption) ?_
  case refine_2 => (intro w hSw; (try dsimp only at hSw); go_simp; (try rw [if_neg (by omega)]); try with_reducible rfl)
  try simp only [Act.put, List.setIfInBounds_toArray, List.set_cons_zero, List.set_cons_succ]
  refine take_to (i := 1) (oi := _) (v := ?_) (some 4) rfl (by kernel_rfl) (by kernel_rfl) (by kernel_rfl) (by kernel_rfl) (fun _ _ _ h => h) (Or.inl ⟨by kernel_rfl, ?_⟩) (by assumption) ?_
  case refine_2 => (intro w hSw; (try dsimp only at hSw); (have cc0 := cell_at hSw 0 _ rfl; have cc1 := cell_at hSw 1 _ rfl); go_simp; (try rw [if_neg (by omega)]); try with_reducible rfl)
  try simp only [Act.put, List.setIfInBounds_toArray, List.set_cons_zero, List.set_cons_succ]
  refine take_to (i := 4) (oi := _) (v := ?_) (some 7) rfl (by kernel_rfl) (by kernel_rfl) (by kernel_rfl) (by kernel_rfl) (fun _ _ _ h => h) (Or.inl ⟨by kernel_rfl, ?_⟩) (by assumption) ?_
  case refine_2 => (intro w hSw; (try dsimp only at hSw); go_simp; (try rw [if_neg (by omega)]); try with_reducible rfl)
  try simp only [Act.put, List.setIfInBounds_toArray, List.set_cons_zero, List.set_cons_succ]
  refine take_to (i := 5) (oi := _) (v := ?_) (some 8) rfl (by kernel_rfl) (by kernel_rfl) (by kernel_rfl) (by kernel_rfl) (fun _ _ _ h => h) (Or.inl ⟨by kernel_rfl, ?_⟩) (by assumption) ?_
  case refine_2 => (intro w hSw; (try dsimp only at hSw); (have cc0 := cell_at hSw 0 _ rfl; have cc1 := cell_at hSw 1 _ rfl); go_simp; (try rw [if_neg (by omega)]); try with_reducible rfl)
  try simp only [Act.put, List.setIfInBounds_toArray, List.set_cons_zero, List.set_cons_succ]
  refine wpAnyH_ready (rs := [2]) (by kernel_rfl) (by simp) ?_
  refine AllReadyH.cons (o := _) rfl (fun K hK => ?_) AllReadyH.nil
  go_simp
  go_at_call 27
  refine (HX _ ((Kept.alloc Nob w _).then (Kept.drew Nob _))).out.mono ?_
  rintro e w1 ⟨rfl, hk1⟩
  have HK := Lib.hid (((Kept.alloc Nob w _).then (Kept.drew Nob _)).then hk1)
  try go_wp2_with fail
  refine hK.out _ _ ((hk1.block _ (Array.getElem?_eq_some_iff.1 hHeld).1 (fun f => f)).trans hHeld) (fun hHeld => ?_)
  clear hK K
  try simp only [Act.put, List.setIfInBounds_toArray, List.set_cons_zero, List.set_cons_succ]
  refine take_to (i := 3) (oi := _) (v := ?_) (some 6) rfl (by kernel_rfl) (by kernel_rfl) (by kernel_rfl) (by kernel_rfl) (fun _ _ _ h => h) (Or.inl ⟨by kernel_rfl, ?_⟩) (by assumption) ?_
  case refine_2 => (intro w hSw; (try dsimp only at hSw); go_simp; (try rw [if_neg (by omega)]); try with_reducible rfl)
  try simp only [Act.put, List.setIfInBounds_toArray, List.set_cons_zero, List.set_cons_succ]
  refine wpAnyH_ready (rs := [6]) (by kernel_rfl) (by simp) ?_
  refine AllReadyH.cons (o := _) rfl (fun K hK => ?_) AllReadyH.nil
  go_simp
  go_at_call 27
  refine (HY _ HK.out).out.mono ?_
  rintro e w2 ⟨rfl, hk2⟩
  have HK2 := Lib.hid (HK.out.then hk2)
  try go_wp2_with fail
  refine hK.out _ _ ((hk2.block _ (Array.getElem?_eq_some_iff.1 hHeld).1 (fun f => f)).trans hHeld) (fun hHeld => ?_)
  clear hK K
  try simp only [Act.put, List.setIfInBounds_toArray, List.set_cons_zero, List.set_cons_succ]
  refine take_to (i := 7) (oi := _) (v := ?_) (some 10) rfl (by kernel_rfl) (by kernel_rfl) (by kernel_rfl) (by kernel_rfl) (fun _ _ _ h => h) (Or.inl ⟨by kernel_rfl, ?_⟩) (by assumption) ?_
  case refine_2 => (intro w hSw; (try dsimp only at hSw); go_simp; (try rw [if_neg (by omega)]); try with_reducible rfl)
  try simp only [Act.put, List.setIfInBounds_toArray, List.set_cons_zero, List.set_cons_succ]
  refine take_to (i := 8) (oi := _) (v := ?_) (some 2) rfl (by kernel_rfl) (by kernel_rfl) (by kernel_rfl) (by kernel_rfl) (fun _ _ _ h => h) (Or.inl ⟨by kernel_rfl, ?_⟩) (by assumption) ?_
  case refine_2 => (intro w hSw; (try dsimp only at hSw); go_simp; (try rw [if_neg (by omega)]); try with_reducible rfl)
  try simp only [Act.put, List.setIfInBounds_toArray, List.set_cons_zero, List.set_cons_succ]
  refine wpAnyH_done (by kernel_rfl) ?_ _
  go_wp2_with fail
  go_ret
  exact ⟨by rw [HT.out]; rfl, HK2.out⟩

set_option maxHeartbeats 4000000 in
theorem script_words (w : World) (word : List UInt8) (v : Value) (l : List Pt) (F : Nat → Prop) (h : PtsAt w v l F) (hw : word.length ≤ 43) (hl : l.length ≤ 64) (ho : ∀ p ∈ l, ok p = true) (hE : Env w) :
    Calls Tryz.prog 33 #[strV word, v] w fun e w' => e = .returned (strV (Lib.join (word :: l.map ptTxt) [32])) ∧ Kept Nob w w' := by
  obtain ⟨a, cap, rfl⟩ := h.shape
  have HP := Lib.hid h
  have HE := Lib.hid hE
  have HO := Lib.hid ho
  have HL := Lib.hid (words_len hw hl ho)
  clear h hE ho hw
  have HS0 : Hid (Own (w.alloc (.cells #[strV word] 9)) 9 (.slice (some ⟨w.heap.size, 0, none⟩) 1 1) [strV word] (From w.heap.size)) := Lib.hid (Own.new w [strV word] 9 1 rfl (by unfold maxLen; omega))
  obtain ⟨wv, hwv⟩ : ∃ u, (⟨word.toArray⟩ : ByteArray) = u := ⟨_, rfl⟩
  unfold strV at HS0 ⊢
  rw [hwv] at HS0 ⊢
  have HWv := Lib.hid hwv
  clear hwv
  go_enter Tryz.func33, Tryz.ntmps33
  go_wp2_with fail
  go_loopw [5, 12] (fun o i wr => ∃ k : Nat, k ≤ l.length ∧ i = .int .i64 k ∧ (∃ g c, o = .slice (some ⟨g, 0, none⟩) (k + 1) c) ∧ Own wr 9 o (.string wv :: (l.take k).map fun p => strV (ptTxt p)) (From w.heap.size) ∧ Kept Nob w wr) (fun _ i _ => l.length - (intOf i).toNat)
  case atStart => exact ⟨0, Nat.zero_le _, rfl, ⟨_, _, rfl⟩, HS0.out, Kept.alloc _ _ _⟩
  case round =>
    clear HS0
    obtain ⟨k, hk, rfl, ⟨g, c, rfl⟩, hown, hw⟩ := hrel
    have HOw := Lib.hid hown
    have HW := Lib.hid hw
    clear hown hw
    by_cases hlt : k < l.length
    · obtain ⟨b, o, rfl, -, hb, -, c0, c1⟩ := (HP.out.nob HW.out).at (List.getElem?_eq_getElem hlt)
      have HT : Hid (l.take (k + 1) = l.take k ++ [l[k]]) := Lib.hid (List.take_succ_eq_append_getElem hlt)
      have HPo := fun (wx : World) (kx : Kept Nob w wx) => Lib.hid (script_point wx l[k].1 l[k].2 (HO.out _ (List.getElem_mem hlt)) (HE.out.kept kx))
      generalize l[k] = pk at *
      obtain ⟨x, y⟩ := pk
      simp only at c0 c1 HPo
      obtain ⟨pv, hpv⟩ : ∃ u, (⟨(ptTxt (x, y)).toArray⟩ : ByteArray) = u := ⟨_, rfl⟩
      unfold strV at HPo
      rw [hpv] at HPo
      have HPv := Lib.hid hpv
      clear hpv
      go_wp2_with fail
      refine (HPo _ (HW.out.then (Kept.alloc Nob _ _))).out.mono ?_
      rintro e w1 ⟨rfl, hk1⟩
      have HW1 := Lib.hid ((HW.out.then (Kept.alloc Nob _ _)).then hk1)
      have HOw1 := Lib.hid (HOw.out.kept ((Kept.alloc Nob wr _).then hk1) (fun _ _ f => f))
      clear hk1
      go_wp2_with (at_builtin; refine wpList_append1_pg rfl _ _ 29 rfl tStrs (.slice (some ⟨g, 0, none⟩) (k + 1) c) _ (.string pv) (From w.heap.size) ⟨w1.heap.size, 0, none⟩ 1 rfl rfl (HOw1.out.alloc _) (by simp) rfl (Nat.le_refl _) rfl (by simp; omega) ?_; intro g2 cap2 w4 ho4 hk4; simp only [List.length_cons, List.length_map, List.length_take, Nat.min_eq_left hk] at ho4 ⊢; have HN := Lib.hid ((HOw1.out.alloc _).step (HW1.out.then (Kept.alloc Nob _ _)) ho4 hk4); clear ho4 hk4)
      go_roundw
      case rel =>
        refine ⟨k + 1, by omega, by go_num, ⟨_, _, rfl⟩, ?_, HN.out.2⟩
        have := HN.out.1
        rw [HT.out]
        simpa [strV, HPv.out] using this
      case measure => simp [intOf]; omega
    · obtain rfl : k = l.length := by omega
      have hmap : (.string wv :: (l.take l.length).map fun p => strV (ptTxt p)) = (word :: l.map ptTxt).map strV := by
        rw [List.take_length, ← HWv.out]; simp [strV]
      have HJ := Lib.hid (str_join wr _ (word :: l.map ptTxt) (From w.heap.size) (by rw [← hmap]; exact HOw.out.reads) (by simp; omega) (Nat.le_trans HL.out (by omega)))
      clear hmap
      go_wp2_with fail
      refine HJ.out.mono ?_
      rintro e w5 ⟨rfl, hk5⟩
      have HK5 := Lib.hid (HW.out.then hk5)
      clear hk5
      go_wp2_with fail
      go_ret
      exact ⟨rfl, HK5.out⟩
end Go.Proofs.YthjiobmglebmdaaGreatDoor
