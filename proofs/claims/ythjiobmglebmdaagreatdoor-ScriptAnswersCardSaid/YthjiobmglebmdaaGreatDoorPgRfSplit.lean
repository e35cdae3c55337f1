/- The document's own cutting of a line at every blank. -/
import Derived.Test.YthjiobmglebmdaaGreatDoorPgRfNum2
import Derived.Test.YthjiobmglebmdaaGreatDoorPgScParse
namespace Go.Proofs.YthjiobmglebmdaaGreatDoor
open Go.RowKit
open Go.Proofs.YthjiobmglebmdaaGreatDoor.Geo Go.Proofs.YthjiobmglebmdaaGreatDoor.Txt

/-- how far a line has been cut: the words so far, where the word under way begins, how far it is read -/
def CutAt (s : List UInt8) (ws : List (List UInt8)) (f k : Nat) : Prop :=
  (k ≤ s.length ∧ f ≤ k ∧ ws ++ sp (s.drop f) = sp s ∧ (32 : UInt8) ∉ (s.drop f).take (k - f)) ∨ (k = s.length + 1 ∧ ws = sp s)
theorem CutAt.start (s : List UInt8) : CutAt s [] 0 0 := .inl ⟨Nat.zero_le _, Nat.le_refl _, by simp, by simp⟩
theorem CutAt.on {s : List UInt8} {ws : List (List UInt8)} {f k : Nat} (h : CutAt s ws f k) (hk : k < s.length) (hb : s[k] ≠ 32) : CutAt s ws f (k + 1) := by
  rcases h with ⟨_, hf, h1, h2⟩ | ⟨h, _⟩
  · refine .inl ⟨hk, by omega, h1, ?_⟩
    rw [show k + 1 - f = (k - f) + 1 from by omega, List.take_succ_eq_append_getElem (by simp; omega), List.mem_append]
    rintro (h | h)
    · exact h2 h
    · rw [List.mem_singleton, List.getElem_drop] at h
      have e : s[f + (k - f)]'(by omega) = s[k] := getElem_congr_idx (by omega)
      exact hb (e.symm.trans h.symm)
  · omega
theorem CutAt.blank {s : List UInt8} {ws : List (List UInt8)} {f k : Nat} (h : CutAt s ws f k) (hk : k < s.length) (hb : s[k] = 32) : CutAt s (ws ++ [(s.drop f).take (k - f)]) (k + 1) (k + 1) := by
  rcases h with ⟨_, hf, h1, h2⟩ | ⟨h, _⟩
  · refine .inl ⟨hk, Nat.le_refl _, ?_, by simp⟩
    have e : s.drop f = (s.drop f).take (k - f) ++ 32 :: s.drop (k + 1) := by
      conv => lhs; rw [← List.take_append_drop (k - f) (s.drop f)]
      rw [List.drop_drop, show f + (k - f) = k from by omega, List.drop_eq_getElem_cons hk, hb]
    rw [← h1]
    conv => rhs; rw [e, sp_app _ _ h2]
    simp
  · omega
theorem CutAt.last {s : List UInt8} {ws : List (List UInt8)} {f : Nat} (h : CutAt s ws f s.length) : CutAt s (ws ++ [(s.drop f).take (s.length - f)]) (s.length + 1) (s.length + 1) := by
  rcases h with ⟨_, hf, h1, h2⟩ | ⟨h, _⟩
  · refine .inr ⟨rfl, ?_⟩
    have e : (s.drop f).take (s.length - f) = s.drop f := List.take_of_length_le (by simp)
    rw [e] at h2 ⊢
    rw [← h1, sp_free _ h2]
  · omega
theorem CutAt.len {s : List UInt8} {ws : List (List UInt8)} {f k : Nat} (h : CutAt s ws f k) : ws.length ≤ s.length + 1 := by
  have hl := (sp_len s).1
  rcases h with ⟨_, _, h1, _⟩ | ⟨_, h1⟩
  · rw [← h1, List.length_append] at hl; omega
  · rw [h1]; exact hl
theorem CutAt.full {s : List UInt8} {ws : List (List UInt8)} {f : Nat} (h : CutAt s ws f (s.length + 1)) : ws = sp s := by
  rcases h with ⟨h, _⟩ | ⟨_, h1⟩
  · omega
  · exact h1
theorem extract_drop {s : List UInt8} {ts : ByteArray} (h : (⟨s.toArray⟩ : ByteArray) = ts) (f k : Nat) : ts.extract f k = ⟨((s.drop f).take (k - f)).toArray⟩ := by
  subst h
  apply ByteArray.ext
  rw [ByteArray.data_extract]
  simp [List.extract_eq_take_drop]
set_option maxRecDepth 100000 in
set_option maxHeartbeats 4000000 in
theorem ref_split (w : World) (s : List UInt8) (hs : s.length ≤ 1000000) :
    Calls Tryz.prog 44 #[strV s] w fun e w' => ∃ b c, e = .returned (.slice b (sp s).length c) ∧ Own w' 9 (.slice b (sp s).length c) ((sp s).map strV) (From w.heap.size) ∧ Kept Nob w w' := by
  obtain ⟨ts, hts⟩ : ∃ u, (⟨s.toArray⟩ : ByteArray) = u := ⟨_, rfl⟩
  have hsz : ts.size = s.length := by rw [← hts]; simp [ByteArray.size]
  have hget : ∀ k (hk : k < s.length) (hk2 : k < ts.size), ts[k]'hk2 = s[k] := fun k hk hk2 => by subst hts; simp [ByteArray.getElem_eq_getElem_data]
  have HG := Lib.hid hget
  have HTs := Lib.hid hts
  unfold strV
  rw [hts]
  clear hts hget
  go_enter Tryz.func44, Tryz.ntmps44
  go_wp2_with fail
  go_loopw [3, 4, 5] (fun o fv i wr => ∃ (k f : Nat) (ws : List (List UInt8)), k ≤ s.length + 1 ∧ i = .int .i64 k ∧ fv = .int .i64 f ∧ f ≤ k ∧ CutAt s ws f k ∧ (∃ g c, o = .slice g ws.length c) ∧ Own wr 9 o (ws.map strV) (From w.heap.size) ∧ Kept Nob w wr) (fun _ _ i _ => s.length + 1 - (intOf i).toNat)
  case atStart => exact ⟨0, 0, [], by omega, rfl, rfl, Nat.le_refl _, CutAt.start s, ⟨_, _, rfl⟩, Own.nil _ _ _, Kept.refl _ _⟩
  case round =>
    obtain ⟨k, f, ws, hk, rfl, rfl, hf, hcut, ⟨g, c, rfl⟩, hown, hw⟩ := hrel
    have HC := Lib.hid hcut
    have HOw := Lib.hid hown
    have HW := Lib.hid hw
    have hwl := hcut.len
    clear hcut hown hw
    obtain ⟨xv, hxv⟩ : ∃ u, ts.extract f k = u := ⟨_, rfl⟩
    have HX : Hid ((⟨((s.drop f).take (k - f)).toArray⟩ : ByteArray) = xv) := Lib.hid (by rw [← hxv, extract_drop HTs.out])
    by_cases hlt : k < s.length
    · have hz : k < ts.size := by omega
      have gk := HG.out k hlt hz
      obtain ⟨c8, hc8⟩ : ∃ c : Nat, (ts[k]'hz).toNat = c := ⟨_, rfl⟩
      by_cases hb : s[k] = 32
      · have HN := Lib.hid (HC.out.blank hlt hb)
        have g32 : c8 = 32 := by rw [← hc8, gk, hb]; rfl
        subst g32
        clear gk hb
        go_wp2_with (at_builtin; refine wpList_append1_pg rfl _ _ 29 rfl tStrs (.slice g ws.length c) (ws.map strV) (.string xv) (From w.heap.size) ⟨wr.heap.size, 0, none⟩ 1 rfl rfl (HOw.out.alloc _) (by simp) rfl (Nat.le_refl _) rfl (by simp; omega) ?_; intro g2 cap2 w4 ho4 hk4; simp only [List.length_map] at ho4 ⊢; have HO := Lib.hid ((HOw.out.alloc (.cells #[.string xv] 9)).step (HW.out.then (Kept.alloc Nob _ _)) ho4 hk4); clear ho4 hk4)
        go_roundw
        case rel => exact ⟨k + 1, k + 1, ws ++ [(s.drop f).take (k - f)], by omega, by go_num, by go_num, Nat.le_refl _, HN.out, ⟨_, _, by rw [List.length_append, List.length_singleton]⟩, by have := HO.out.1; simpa [strV, HX.out] using this, HO.out.2⟩
        case measure => simp [intOf]; omega
      · have g32 : c8 ≠ 32 := by
          rw [← hc8, gk]; intro h; exact hb (UInt8.toNat_inj.1 h)
        have HN := Lib.hid (HC.out.on hlt hb)
        have e1 : ((k : Int) == (s.length : Int)) = false := by simp; omega
        have e2 : ((c8 : Int) == 32) = false := by simp; omega
        clear gk hb
        go_wp2_with fail
        go_roundw
        case rel => exact ⟨k + 1, f, ws, by omega, by go_num, rfl, by omega, HN.out, ⟨_, _, rfl⟩, HOw.out, HW.out⟩
        case measure => simp [intOf]; omega
    · by_cases he : k = s.length
      · subst he
        have HN := Lib.hid HC.out.last
        go_wp2_with (at_builtin; refine wpList_append1_pg rfl _ _ 29 rfl tStrs (.slice g ws.length c) (ws.map strV) (.string xv) (From w.heap.size) ⟨wr.heap.size, 0, none⟩ 1 rfl rfl (HOw.out.alloc _) (by simp) rfl (Nat.le_refl _) rfl (by simp; omega) ?_; intro g2 cap2 w4 ho4 hk4; simp only [List.length_map] at ho4 ⊢; have HO := Lib.hid ((HOw.out.alloc (.cells #[.string xv] 9)).step (HW.out.then (Kept.alloc Nob _ _)) ho4 hk4); clear ho4 hk4)
        go_roundw
        case rel => exact ⟨s.length + 1, s.length + 1, ws ++ [(s.drop f).take (s.length - f)], by omega, by go_num, by go_num, Nat.le_refl _, HN.out, ⟨_, _, by rw [List.length_append, List.length_singleton]⟩, by have := HO.out.1; simpa [strV, HX.out] using this, HO.out.2⟩
        case measure => simp [intOf]
      · obtain rfl : k = s.length + 1 := by omega
        obtain rfl := HC.out.full
        go_wp2_with fail
        go_ret
        exact ⟨_, _, rfl, HOw.out, HW.out⟩
end Go.Proofs.YthjiobmglebmdaaGreatDoor
