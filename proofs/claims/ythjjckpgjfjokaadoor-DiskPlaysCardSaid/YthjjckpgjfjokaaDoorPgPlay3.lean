/- DiskPlays: the walk. -/
import Derived.Test.YthjjckpgjfjokaaDoorPgPlay2
namespace Go.Proofs.YthjjckpgjfjokaaDoor
open Go.RowKit

theorem write_ops (d : Dsk) (k : Int) (x : List Value) : (d.write k x).1.ops ≤ d.ops + 1 := by
  unfold Dsk.write
  split
  · simp; omega
  · split
    · simp; omega
    · split <;> simp [Dsk.put, Dsk.begun]
theorem sync_ops (d : Dsk) : d.sync.1.ops ≤ d.ops + 1 := by
  unfold Dsk.sync
  split <;> simp [Dsk.begun]

/-- what DiskPlays' loop keeps -/
def PlayRel (w : World) (k : Nat) (p q : Value) (wr : World) : Prop :=
  ∃ (b m : Nat) (d : Dsk) (F R : Nat → Prop), p = .pointer (some ⟨b, 0, none⟩) ∧ q = .pointer (some ⟨m, 0, none⟩) ∧ d.ops ≤ (k : Int) ∧ Pair w b m d F R wr

theorem Typed.nob {w w' : World} (h : Typed w) (hk : Kept Nob w w') : Typed w' := h.kept hk (fun f => f)

set_option maxRecDepth 100000 in
set_option maxHeartbeats 4000000 in
theorem plays_main (w : World) (n : Nat) (v : Value) (l : List DStep) (h : StepsAt w v l (fun j => j < w.heap.size)) (h1 : 1 ≤ n) (h2 : n ≤ 40) (ht : Typed w) :
    Calls Tryd.prog 4 #[.int .i64 n, v] w (RetTrue w) := by
  have HT := Lib.hid ht
  have HS := Lib.hid h
  have HSM := Lib.hid (small_any w v l _ h)
  obtain ⟨a, cap, rfl⟩ := h.shape
  have n40 : decide (40 < (n : Int)) = false := by simp; omega
  clear ht h
  go_enter Tryd.func4, Tryd.ntmps4
  go_wp2_with fail
  refine HSM.out.mono ?_
  rintro e w1 ⟨bb, rfl, hbb, hk1⟩
  have HK1 := Lib.hid hk1
  clear hk1
  cases bb
  · clear hbb
    go_wp2_with fail
    refine (awake_true _).mono ?_
    rintro e w2 ⟨rfl, hk2⟩
    have HK2 := Lib.hid (HK1.out.then hk2)
    clear hk2
    go_wp2_with fail
    go_ret
    exact ⟨rfl, HK2.out⟩
  obtain ⟨hl, hk⟩ := hbb rfl
  have HK := Lib.hid hk
  clear hk hbb
  go_wp2_with fail
  refine (disk_new w1 n h1 (by omega)).mono ?_
  rintro e w2 ⟨b, rfl, hD2, hk2⟩
  have HD2 := Lib.hid hD2
  have HK2 := Lib.hid hk2
  clear hD2 hk2
  go_wp2_with fail
  refine (doc_new w2 n h1 (by omega)).mono ?_
  rintro e w3 ⟨m, R, rfl, hM3, hR3, hm3, hk3⟩
  have HR0 : Hid (PlayRel w 0 (.pointer (some ⟨b, 0, none⟩)) (.pointer (some ⟨m, 0, none⟩)) w3) := by
    have s1 := HK1.out.size
    have s2 := HK2.out.size
    exact ⟨b, m, Dsk.fresh n, _, R, rfl, rfl, by simp [Dsk.fresh], HD2.out.kept hk3 (fun _ _ f => f), hM3, fun j hj hr => by have := hR3 j hr; omega, fun hj => by omega, fun j hj => by omega, fun j hj => by have := hR3 j hj; omega, by omega, (HK1.out.then HK2.out).then hk3⟩
  clear hM3 hR3 hm3 hk3 HD2 HK2 HK1 HSM
  go_wp2_with (first | (go_at_call 10; refine (is_none _ _ _).mono ?_; rintro e w' ⟨rfl, rfl⟩))
  go_loopw [5, 7, 9] (fun p q i wr => ∃ k : Nat, k ≤ l.length ∧ i = .int .i64 k ∧ PlayRel w k p q wr) (fun _ _ i _ => l.length - (intOf i).toNat)
  case atStart => exact ⟨0, Nat.zero_le _, rfl, HR0.out⟩
  case round =>
    clear HR0
    obtain ⟨k, hk, rfl, b, m, d, F, R, rfl, rfl, hops, hP⟩ := hrel
    by_cases hlt : k < l.length
    · obtain ⟨bl, ol, rfl, hbl, hat⟩ := (HS.out.kept hP.kept (fun _ _ f => f)).at hlt
      obtain ⟨ka, kc, c3, hkr⟩ := hat.c3
      have c0 := hat.c0
      have c1 := hat.c1
      have c2 := hat.c2
      have HN := Lib.hid hat.nIn
      have HPn := Lib.hid hat.pIn
      have hkl : l[k].keep.length ≤ 2000 := HK.out _ (List.getElem_mem hlt)
      have HKR := Lib.hid hkr
      have HP := Lib.hid hP
      have hblr := cell_lt c0
      clear hat hkr hP hbl
      generalize l[k] = s at *
      obtain ⟨kind, place, sn, keep⟩ := s
      simp only at *
      by_cases k1 : kind = 1
      · subst k1
        have hP0 := HP.out.calm (Kept.alloc Nob wr (.cells #[.int .i64 1, .int .i64 place, .int .i64 sn, .slice ka keep.length kc] 46))
        have HP0 := Lib.hid hP0
        have hbsF : ∀ j, F j → j < wr.heap.size := fun j hj => HP.out.disk.under j hj
        have hmr : m < wr.heap.size := HP.out.doc.lt
        have HBF := Lib.hid hbsF
        clear hP0 hbsF
        go_wp2_with fail
        refine (block_any _ 64 (by omega) sn).mono ?_
        rintro e w3 ⟨g3, rfl, ho3, hk3⟩
        have c30 : w3.cell? ⟨wr.heap.size, 0, none⟩ = some (.int .i64 1) := (hk3.cell (p := ⟨wr.heap.size, 0, none⟩) (by simp) (fun f => f)).trans (by simp)
        have HK3 := Lib.hid hk3
        have hP3 := HP0.out.calm hk3
        have HP3 := Lib.hid hP3
        have hbs3 : wr.heap.size < w3.heap.size := by have := hk3.size; simp at this; omega
        have c3' : w3.cell? ⟨wr.heap.size, 1, none⟩ = some (.int .i64 place) := (hk3.cell (p := ⟨wr.heap.size, 1, none⟩) (by simp) (fun f => f)).trans (by simp)
        have HX3 := Lib.hid ho3.reads.drew
        have HW1 := Lib.hid (disk_write_any w3.drew b d F (hP3.disk.kept (Kept.drew Nob w3) (fun _ _ f => f)) place (.slice (some ⟨g3, 0, none⟩) 64 64) (blockRow 64 sn) (From (wr.alloc (.cells #[.int .i64 1, .int .i64 place, .int .i64 sn, .slice ka keep.length kc] 46)).heap.size) HX3.out (blockRow_bytes _ _) (fun j hj hF => by have := HBF.out j hF; simp [From] at hj; omega) (by omega))
        have HO := Lib.hid (write_ops d place (blockRow 64 sn))
        clear hk3 hP3 ho3 c3
        go_wp2_with fail
        go_region_held3 (fun w' => w'.cell? ⟨wr.heap.size, 1, none⟩ = some (.int .i64 place)) (first | (go_keep; done) | assumption)
          ((first
            | (go_at_call 8; refine HW1.out.mono ?_; rintro e w4 ⟨ev, rfl, he4, hn4, ⟨F4, hD4, hg4⟩, hk4⟩;
               have q1 : w4.cell? ⟨wr.heap.size, 1, none⟩ = some (.int .i64 place) := (hk4.cell (p := ⟨wr.heap.size, 1, none⟩) (by simpa using hbs3) (fun f => absurd (HBF.out wr.heap.size f) (Nat.lt_irrefl _))).trans c3';
               have hM4 := (HP3.out.calm (Kept.drew Nob w3)).docOn hk4;
               have HW2 := Lib.hid (doc_write_any w4 m d R hM4 place (.slice (some ⟨g3, 0, none⟩) 64 64) (blockRow 64 sn) (From (wr.alloc (.cells #[.int .i64 1, .int .i64 place, .int .i64 sn, .slice ka keep.length kc] 46)).heap.size) (HX3.out.kept hk4 (fun j hj hF => by have := HBF.out j hF; simp [From] at hj; omega)) (blockRow_bytes _ _) (fun hj => by simp [From] at hj; omega) (by omega));
               have HE4 := Lib.hid he4; have HN4 := Lib.hid hn4; have HD4 := Lib.hid hD4; have HG4 := Lib.hid hg4; have HK4 := Lib.hid hk4; clear he4 hn4 hD4 hg4 hk4 hM4)
            | (go_at_call 19; refine HW2.out.mono ?_; rintro e w5 ⟨rfl, ⟨R5, hD5, hg5⟩, hk5⟩;
               have q2 : w5.cell? ⟨wr.heap.size, 1, none⟩ = some (.int .i64 place) := (hk5.cell (p := ⟨wr.heap.size, 1, none⟩) (cell_lt q1) (fun f => absurd (show wr.heap.size = m from f) (by omega))).trans q1;
               have HP5 := Lib.hid ((HP3.out.calm (Kept.drew Nob w3)).both HD4.out HG4.out HK4.out hD5 hg5 hk5);
               have HIs0 := is_err w5 ev opWrite place (d.write place (blockRow 64 sn)).2 (HE4.out.kept hk5 (B := Just m) (fun _ h => h) (fun g q h => by have := HN4.out g q; simp at this; have : g = m := h; omega)) (HT.out.nob HP5.out.kept);
               unfold opWrite at HIs0; have HIs := Lib.hid HIs0; clear hD5 hg5 hk5 HIs0)
            | (go_at_call 10; refine HIs.out.mono ?_; rintro e w6 ⟨rfl, hk6⟩; have q3 : w6.cell? ⟨wr.heap.size, 1, none⟩ = some (.int .i64 place) := (hk6.cell (p := ⟨wr.heap.size, 1, none⟩) (cell_lt q2) (fun f => f)).trans q2; have HPx := Lib.hid (HP5.out.calm hk6); clear hk6)))
        go_wp2_with fail
        refine (same_any _ _ _ _ HPx.out.disk _ _ HPx.out.doc).mono ?_
        rintro e w7 ⟨rfl, hk7⟩
        have HR7 : Hid (PlayRel w (k + 1) (.pointer (some ⟨b, 0, none⟩)) (.pointer (some ⟨m, 0, none⟩)) w7) := ⟨_, _, _, _, _, rfl, rfl, by have := HO.out; omega, HPx.out.calm hk7⟩
        clear hk7 HPx
        go_wp2_with fail
        go_roundw
        case rel => exact ⟨k + 1, by omega, by go_num, HR7.out⟩
        case measure => simp [intOf]; omega
      by_cases k2 : kind = 2
      · subst k2
        have hP0 := HP.out.calm (Kept.alloc Nob wr (.cells #[.int .i64 2, .int .i64 place, .int .i64 sn, .slice ka keep.length kc] 46))
        have HP0 := Lib.hid hP0
        have hbsF : ∀ j, F j → j < wr.heap.size := fun j hj => HP.out.disk.under j hj
        have hmr : m < wr.heap.size := HP.out.doc.lt
        have HBF := Lib.hid hbsF
        clear hP0 hbsF
        go_wp2_with fail
        refine (block_any _ 64 (by omega) sn).mono ?_
        rintro e w31 ⟨g31, rfl, -, hk31⟩
        have c31 : w31.cell? ⟨wr.heap.size, 0, none⟩ = some (.int .i64 2) := (hk31.cell (p := ⟨wr.heap.size, 0, none⟩) (by simp) (fun f => f)).trans (by simp)
        have c32 : w31.cell? ⟨wr.heap.size, 2, none⟩ = some (.int .i64 sn) := (hk31.cell (p := ⟨wr.heap.size, 2, none⟩) (by simp) (fun f => f)).trans (by simp)
        have HK31 := Lib.hid hk31
        clear hk31
        obtain ⟨q, hq⟩ : ∃ q : Nat, sn % 100 = (q : Int) := ⟨(sn % 100).toNat, by omega⟩
        have hq100 : q < 100 := by omega
        have HRo0 := round_any w31 sn 100 (by omega) (by omega)
        rw [hq] at HRo0
        have HRo := Lib.hid HRo0
        clear HRo0 hq
        go_wp2_with (go_at_call 18; refine HRo.out.mono ?_; rintro e w' ⟨rfl, rfl⟩)
        refine (block_any _ q (by omega) 1).mono ?_
        rintro e w3 ⟨g3, rfl, ho30, hk30⟩
        have hk3 := HK31.out.then hk30
        have ho3 := ho30.mono (G := From (wr.alloc (.cells #[.int .i64 2, .int .i64 place, .int .i64 sn, .slice ka keep.length kc] 46)).heap.size) (fun j _ hj => by have := HK31.out.size; simp [From] at *; omega)
        clear hk30 ho30 c31 c32 HRo
        have HK3 := Lib.hid hk3
        have hP3 := HP0.out.calm hk3
        have HP3 := Lib.hid hP3
        have hbs3 : wr.heap.size < w3.heap.size := by have := hk3.size; simp at this; omega
        have c3' : w3.cell? ⟨wr.heap.size, 1, none⟩ = some (.int .i64 place) := (hk3.cell (p := ⟨wr.heap.size, 1, none⟩) (by simp) (fun f => f)).trans (by simp)
        have HX3 := Lib.hid ho3.reads.drew
        have HW1 := Lib.hid (disk_write_any w3.drew b d F (hP3.disk.kept (Kept.drew Nob w3) (fun _ _ f => f)) place (.slice (some ⟨g3, 0, none⟩) q q) (blockRow q 1) (From (wr.alloc (.cells #[.int .i64 2, .int .i64 place, .int .i64 sn, .slice ka keep.length kc] 46)).heap.size) HX3.out (blockRow_bytes _ _) (fun j hj hF => by have := HBF.out j hF; simp [From] at hj; omega) (by omega))
        have HO := Lib.hid (write_ops d place (blockRow q 1))
        clear hk3 hP3 ho3 c3
        go_wp2_with fail
        go_region_held3 (fun w' => w'.cell? ⟨wr.heap.size, 1, none⟩ = some (.int .i64 place)) (first | (go_keep; done) | assumption)
          ((first
            | (go_at_call 8; refine HW1.out.mono ?_; rintro e w4 ⟨ev, rfl, he4, hn4, ⟨F4, hD4, hg4⟩, hk4⟩;
               have q1 : w4.cell? ⟨wr.heap.size, 1, none⟩ = some (.int .i64 place) := (hk4.cell (p := ⟨wr.heap.size, 1, none⟩) (by simpa using hbs3) (fun f => absurd (HBF.out wr.heap.size f) (Nat.lt_irrefl _))).trans c3';
               have hM4 := (HP3.out.calm (Kept.drew Nob w3)).docOn hk4;
               have HW2 := Lib.hid (doc_write_any w4 m d R hM4 place (.slice (some ⟨g3, 0, none⟩) q q) (blockRow q 1) (From (wr.alloc (.cells #[.int .i64 2, .int .i64 place, .int .i64 sn, .slice ka keep.length kc] 46)).heap.size) (HX3.out.kept hk4 (fun j hj hF => by have := HBF.out j hF; simp [From] at hj; omega)) (blockRow_bytes _ _) (fun hj => by simp [From] at hj; omega) (by omega));
               have HE4 := Lib.hid he4; have HN4 := Lib.hid hn4; have HD4 := Lib.hid hD4; have HG4 := Lib.hid hg4; have HK4 := Lib.hid hk4; clear he4 hn4 hD4 hg4 hk4 hM4)
            | (go_at_call 19; refine HW2.out.mono ?_; rintro e w5 ⟨rfl, ⟨R5, hD5, hg5⟩, hk5⟩;
               have q2 : w5.cell? ⟨wr.heap.size, 1, none⟩ = some (.int .i64 place) := (hk5.cell (p := ⟨wr.heap.size, 1, none⟩) (cell_lt q1) (fun f => absurd (show wr.heap.size = m from f) (by omega))).trans q1;
               have HP5 := Lib.hid ((HP3.out.calm (Kept.drew Nob w3)).both HD4.out HG4.out HK4.out hD5 hg5 hk5);
               have HIs0 := is_err w5 ev opWrite place (d.write place (blockRow q 1)).2 (HE4.out.kept hk5 (B := Just m) (fun _ h => h) (fun g q h => by have := HN4.out g q; simp at this; have : g = m := h; omega)) (HT.out.nob HP5.out.kept);
               unfold opWrite at HIs0; have HIs := Lib.hid HIs0; clear hD5 hg5 hk5 HIs0)
            | (go_at_call 10; refine HIs.out.mono ?_; rintro e w6 ⟨rfl, hk6⟩; have q3 : w6.cell? ⟨wr.heap.size, 1, none⟩ = some (.int .i64 place) := (hk6.cell (p := ⟨wr.heap.size, 1, none⟩) (cell_lt q2) (fun f => f)).trans q2; have HPx := Lib.hid (HP5.out.calm hk6); clear hk6)))
        go_wp2_with fail
        refine (same_any _ _ _ _ HPx.out.disk _ _ HPx.out.doc).mono ?_
        rintro e w7 ⟨rfl, hk7⟩
        have HR7 : Hid (PlayRel w (k + 1) (.pointer (some ⟨b, 0, none⟩)) (.pointer (some ⟨m, 0, none⟩)) w7) := ⟨_, _, _, _, _, rfl, rfl, by have := HO.out; omega, HPx.out.calm hk7⟩
        clear hk7 HPx
        go_wp2_with fail
        go_roundw
        case rel => exact ⟨k + 1, by omega, by go_num, HR7.out⟩
        case measure => simp [intOf]; omega
      by_cases k3 : kind = 3
      · subst k3
        have hP0 := HP.out.calm (Kept.alloc Nob wr (.cells #[.int .i64 3, .int .i64 place, .int .i64 sn, .slice ka keep.length kc] 46))
        have HP0 := Lib.hid hP0
        have hbsF : ∀ j, F j → j < wr.heap.size := fun j hj => HP.out.disk.under j hj
        have hmr : m < wr.heap.size := HP.out.doc.lt
        have HBF := Lib.hid hbsF
        clear hP0 hbsF
        go_wp2_with fail
        refine (disk_sync_any _ b d F HP0.out.disk (by omega)).mono ?_
        rintro e w4 ⟨ev, rfl, he4, hn4, ⟨F4, hD4, hg4⟩, hk4⟩
        have HE4 := Lib.hid he4
        have HN4 := Lib.hid hn4
        have HD4 := Lib.hid hD4
        have HG4 := Lib.hid hg4
        have HK4 := Lib.hid hk4
        clear he4 hn4 hD4 hg4 hk4
        go_wp2_with fail
        refine (doc_sync_any w4 m d R (HP0.out.docOn HK4.out) (by omega)).mono ?_
        rintro e w5 ⟨rfl, ⟨R5, hD5, hg5⟩, hk5⟩
        have HP5 := Lib.hid (HP0.out.both HD4.out HG4.out HK4.out hD5 hg5 hk5)
        have HIs0 := is_err w5 ev opSync 0 d.sync.2 (HE4.out.kept hk5 (B := Just m) (fun _ h => h) (fun g q h => by have := HN4.out g q; simp at this; have : g = m := h; omega)) (HT.out.nob HP5.out.kept)
        unfold opSync at HIs0
        have HIs := Lib.hid HIs0
        have HO := Lib.hid (sync_ops d)
        clear hD5 hg5 hk5 HIs0 HE4 HN4 HD4 HG4 HK4
        generalize d.sync.2 = code at *
        go_wp2_with (go_at_call 10; refine HIs.out.mono ?_; rintro e w6 ⟨rfl, hk6⟩)
        have HPx := Lib.hid (HP5.out.calm hk6)
        clear hk6 HP5 HIs
        go_wp2_with fail
        refine (same_any _ _ _ _ HPx.out.disk _ _ HPx.out.doc).mono ?_
        rintro e w7 ⟨rfl, hk7⟩
        have HR7 : Hid (PlayRel w (k + 1) (.pointer (some ⟨b, 0, none⟩)) (.pointer (some ⟨m, 0, none⟩)) w7) := ⟨_, _, _, _, _, rfl, rfl, by have := HO.out; omega, HPx.out.calm hk7⟩
        clear hk7 HPx
        go_wp2_with fail
        go_roundw
        case rel => exact ⟨k + 1, by omega, by go_num, HR7.out⟩
        case measure => simp [intOf]; omega
      by_cases k4 : kind = 4
      · subst k4
        by_cases hran : place < 0 ∨ d.good.length ≤ place
        · have hP0 := HP.out.calm (Kept.alloc Nob wr (.cells #[.int .i64 4, .int .i64 place, .int .i64 sn, .slice ka keep.length kc] 46))
          have HP0 := Lib.hid hP0
          have hbsF : ∀ j, F j → j < wr.heap.size := fun j hj => HP.out.disk.under j hj
          have hmr : m < wr.heap.size := HP.out.doc.lt
          have HBF := Lib.hid hbsF
          clear hP0 hbsF
          go_wp2_with fail
          refine (disk_read_bad _ b d F HP0.out.disk place hran).mono ?_
          rintro e w4 ⟨g4, rfl, hf4, hk4⟩
          have HF4 := Lib.hid hf4
          have HP4 := Lib.hid (HP0.out.calm hk4)
          have c41 : w4.cell? ⟨wr.heap.size, 1, none⟩ = some (.int .i64 place) := (hk4.cell (p := ⟨wr.heap.size, 1, none⟩) (by simp) (fun f => f)).trans (by simp)
          have HRb := Lib.hid (doc_read_bad w4 m d R HP4.out.doc place hran)
          clear hf4 hk4 hran
          go_wp2_with (go_at_call 22; refine HRb.out.mono ?_; rintro e w' ⟨rfl, rfl⟩)
          have hnil : Reads w4 (.slice none 0 0) [] (fun _ => True) := .inl ⟨rfl, none, 0, rfl, fun _ => rfl⟩
          have HBy := Lib.hid (bytes_rows w4 _ _ [] [] _ _ hnil hnil (fun c h => by cases h) (fun c h => by cases h) (by simp) (by simp))
          have HIs := Lib.hid (fun n6 => (is_err (w4.drewN n6) _ opRead place 2 (.inr ⟨by omega, by omega, (HF4.out.kept (Kept.drewN Nob w4 n6) (fun _ _ f => f)).mono (fun _ _ _ => trivial)⟩) ((HT.out.nob HP4.out.kept).nob (Kept.drewN _ _ _))))
          have HIs' := HIs.out
          unfold opRead at HIs'
          have HIs2 := Lib.hid HIs'
          clear hnil HIs' HIs HRb
          refine HBy.out.mono ?_
          rintro e w6 ⟨r6, n6, rfl, hr6, rfl⟩
          obtain rfl : r6 = true := hr6.2 rfl
          clear hr6
          go_wp2_with (go_at_call 10; refine (HIs2.out n6).mono ?_; rintro e w8 ⟨rfl, hk8⟩)
          have HPx := Lib.hid (HP4.out.calm ((Kept.drewN Nob _ n6).then hk8))
          clear hk8
          go_wp2_with fail
          refine (same_any _ _ _ _ HPx.out.disk _ _ HPx.out.doc).mono ?_
          rintro e w7 ⟨rfl, hk7⟩
          have HR7 : Hid (PlayRel w (k + 1) (.pointer (some ⟨b, 0, none⟩)) (.pointer (some ⟨m, 0, none⟩)) w7) := ⟨_, _, _, _, _, rfl, rfl, (by omega), HPx.out.calm hk7⟩
          clear hk7 HPx
          go_wp2_with fail
          go_roundw
          case rel => exact ⟨k + 1, by omega, by go_num, HR7.out⟩
          case measure => simp [intOf]; omega
        · have hP0 := HP.out.calm (Kept.alloc Nob wr (.cells #[.int .i64 4, .int .i64 place, .int .i64 sn, .slice ka keep.length kc] 46))
          have HP0 := Lib.hid hP0
          have hbsF : ∀ j, F j → j < wr.heap.size := fun j hj => HP.out.disk.under j hj
          have hmr : m < wr.heap.size := HP.out.doc.lt
          have HBF := Lib.hid hbsF
          clear hP0 hbsF
          obtain ⟨pk, rfl⟩ : ∃ pk : Nat, place = pk := ⟨place.toNat, by omega⟩
          have hpk : pk < d.good.length := by omega
          have hX := Dsk.Sectors.getD HP.out.disk.wf.now (i := pk) (by rw [HP.out.disk.wf.len]; exact hpk)
          have HX := Lib.hid hX
          have HRd := Lib.hid (disk_read _ b d F HP0.out.disk pk hpk)
          have HMM := Lib.hid (fun w2 q => Lib.hid (doc_read w2 m d R (HP0.out.calm (w' := w2) q).doc pk hpk))
          clear hX hran
          generalize d.now.getD pk [] = x at *
          go_wp2_with fail
          refine HRd.out.mono ?_
          rintro e w4 ⟨b4, cap4, rfl, ho4, hk4⟩
          rw [HX.out.1] at ho4 ⊢
          have HO4 := Lib.hid ho4
          have HK4 := Lib.hid hk4
          have c41 : w4.cell? ⟨wr.heap.size, 1, none⟩ = some (.int .i64 pk) := (hk4.cell (p := ⟨wr.heap.size, 1, none⟩) (by simp) (fun f => f)).trans (by simp)
          clear ho4 hk4 HRd
          go_wp2_with fail
          refine (HMM.out w4 HK4.out).out.mono ?_
          rintro e w5 ⟨b5, cap5, rfl, hr5, hk5⟩
          have HR5 := Lib.hid hr5
          have HO5 := Lib.hid (HO4.out.kept hk5 (fun _ _ f => f))
          have c51 : w5.cell? ⟨wr.heap.size, 1, none⟩ = some (.int .i64 pk) := (hk5.cell (p := ⟨wr.heap.size, 1, none⟩) (cell_lt c41) (fun f => f)).trans c41
          have HK5 := Lib.hid (HK4.out.then hk5)
          clear hr5 hk5 c41 HMM HO4
          have HBy := Lib.hid (bytes_rows w5 _ _ x x _ _ HO5.out.reads HR5.out HX.out.2 HX.out.2 (by have := HX.out.1; omega) (by have := HX.out.1; omega))
          go_wp2_with (first | (go_at_call 13; refine HBy.out.mono ?_; rintro e w6 ⟨r6, n6, rfl, hr6, rfl⟩; obtain rfl : r6 = true := hr6.2 rfl; clear hr6) | (go_at_call 10; refine (is_none _ _ _).mono ?_; rintro e w' ⟨rfl, rfl⟩))
          have HPx := Lib.hid (HP0.out.calm (HK5.out.then (Kept.drewN Nob _ n6)))
          go_wp2_with fail
          refine (same_any _ _ _ _ HPx.out.disk _ _ HPx.out.doc).mono ?_
          rintro e w7 ⟨rfl, hk7⟩
          have HR7 : Hid (PlayRel w (k + 1) (.pointer (some ⟨b, 0, none⟩)) (.pointer (some ⟨m, 0, none⟩)) w7) := ⟨_, _, _, _, _, rfl, rfl, (by omega), HPx.out.calm hk7⟩
          clear hk7 HPx
          go_wp2_with fail
          go_roundw
          case rel => exact ⟨k + 1, by omega, by go_num, HR7.out⟩
          case measure => simp [intOf]; omega
      by_cases k5 : kind = 5
      · subst k5
        have hP0 := HP.out.calm (Kept.alloc Nob wr (.cells #[.int .i64 5, .int .i64 place, .int .i64 sn, .slice ka keep.length kc] 46))
        have HP0 := Lib.hid hP0
        have hbsF : ∀ j, F j → j < wr.heap.size := fun j hj => HP.out.disk.under j hj
        have hmr : m < wr.heap.size := HP.out.doc.lt
        have HBF := Lib.hid hbsF
        clear hP0 hbsF
        go_wp2_with fail
        refine (disk_cut _ b d F HP0.out.disk sn (by have := HN.out; simpa using this.2)).mono ?_
        rintro e w4 ⟨rfl, hD4, hk4⟩
        have HD4 := Lib.hid hD4
        have hk4' := hk4.mono (G := F) (fun j _ hj => by rw [show j = b from hj]; exact HP0.out.disk.has)
        have c42 : w4.cell? ⟨wr.heap.size, 2, none⟩ = some (.int .i64 sn) := (hk4'.cell (p := ⟨wr.heap.size, 2, none⟩) (by simp) (fun f => absurd (HBF.out wr.heap.size f) (Nat.lt_irrefl _))).trans (by simp)
        have HK4 := Lib.hid hk4'
        clear hD4 hk4 hk4'
        go_wp2_with fail
        refine (doc_cut w4 m d R (HP0.out.docOn HK4.out) sn (by have := HN.out; simpa using this.1) (by have := HN.out; simpa using this.2)).mono ?_
        rintro e w5 ⟨rfl, hD5, hk5⟩
        have HPx := Lib.hid (HP0.out.both HD4.out (Grows.refl _ _) HK4.out hD5 (Grows.refl _ _) hk5)
        clear hD5 hk5 HD4 HK4
        go_wp2_with fail
        refine (same_any _ _ _ _ HPx.out.disk _ _ HPx.out.doc).mono ?_
        rintro e w7 ⟨rfl, hk7⟩
        have HR7 : Hid (PlayRel w (k + 1) (.pointer (some ⟨b, 0, none⟩)) (.pointer (some ⟨m, 0, none⟩)) w7) := ⟨_, _, _, _, _, rfl, rfl, (by simp [Dsk.slash]; omega), HPx.out.calm hk7⟩
        clear hk7 HPx
        go_wp2_with fail
        go_roundw
        case rel => exact ⟨k + 1, by omega, by go_num, HR7.out⟩
        case measure => simp [intOf]; omega
      by_cases k6 : kind = 6
      · subst k6
        have hP0 := HP.out.calm (Kept.alloc Nob wr (.cells #[.int .i64 6, .int .i64 place, .int .i64 sn, .slice ka keep.length kc] 46))
        have HP0 := Lib.hid hP0
        have hbsF : ∀ j, F j → j < wr.heap.size := fun j hj => HP.out.disk.under j hj
        have hmr : m < wr.heap.size := HP.out.doc.lt
        have HBF := Lib.hid hbsF
        clear hP0 hbsF
        have HKR2 := Lib.hid ((HKR.out.mono (G := fun j => j < wr.heap.size) (fun j hj _ => hj)))
        go_wp2_with fail
        refine (disk_crash _ b d F HP0.out.disk _ keep _ (HKR2.out.alloc _) (by omega) sn).mono ?_
        rintro e w4 ⟨b4, rfl, hD4, hk4⟩
        have HD4 := Lib.hid hD4
        have c42 : w4.cell? ⟨wr.heap.size, 2, none⟩ = some (.int .i64 sn) := (hk4.cell (p := ⟨wr.heap.size, 2, none⟩) (by simp) (fun f => f)).trans (by simp)
        have c43 : w4.cell? ⟨wr.heap.size, 3, none⟩ = some (.slice ka keep.length kc) := (hk4.cell (p := ⟨wr.heap.size, 3, none⟩) (by simp) (fun f => f)).trans (by simp)
        have HK4 := Lib.hid hk4
        clear hD4 hk4 c3
        go_wp2_with fail
        refine (doc_crash w4 m d R ((HP0.out.calm HK4.out).doc) _ keep _ ((HKR2.out.alloc _).kept HK4.out (fun _ _ f => f)) (by omega) sn).mono ?_
        rintro e w5 ⟨m5, R5, rfl, hD5, hg5, hm5, hk5⟩
        have HPx : Hid (Pair w b4 m5 (d.crash keep sn) (fun j => (wr.alloc (.cells #[.int .i64 6, .int .i64 place, .int .i64 sn, .slice ka keep.length kc] 46)).heap.size ≤ j ∧ j < w4.heap.size) R5 w5) := by
          have s0 := HP.out.kept.size
          have s4 := HK4.out.size
          have s5 := hk5.size
          simp at s4
          refine Lib.hid ⟨HD4.out.kept hk5 (fun _ _ f => f), hD5, fun j hj hr => ?_, fun hj => ?_, fun j hj => ?_, fun j hj => ?_, by omega, (HP0.out.calm HK4.out).kept.then hk5⟩
          · rcases hg5 j hr with q | q
            · have := HP.out.doc.under j q; simp at hj; omega
            · omega
          · simp at hj; omega
          · simp at hj; omega
          · rcases hg5 j hj with q | q
            · exact HP.out.newR j q
            · omega
        clear hD5 hg5 hm5 hk5 HD4 HK4
        go_wp2_with fail
        refine (same_any _ _ _ _ HPx.out.disk _ _ HPx.out.doc).mono ?_
        rintro e w7 ⟨rfl, hk7⟩
        have HR7 : Hid (PlayRel w (k + 1) (.pointer (some ⟨b4, 0, none⟩)) (.pointer (some ⟨m5, 0, none⟩)) w7) := ⟨_, _, _, _, _, rfl, rfl, (by simp [Dsk.crash]; omega), HPx.out.calm hk7⟩
        clear hk7 HPx
        go_wp2_with fail
        go_roundw
        case rel => exact ⟨k + 1, by omega, by go_num, HR7.out⟩
        case measure => simp [intOf]; omega
      by_cases k7 : kind = 7
      · subst k7
        have hP0 := HP.out.calm (Kept.alloc Nob wr (.cells #[.int .i64 7, .int .i64 place, .int .i64 sn, .slice ka keep.length kc] 46))
        have HP0 := Lib.hid hP0
        have hbsF : ∀ j, F j → j < wr.heap.size := fun j hj => HP.out.disk.under j hj
        have hmr : m < wr.heap.size := HP.out.doc.lt
        have HBF := Lib.hid hbsF
        clear hP0 hbsF
        go_wp2_with fail
        refine (disk_copy _ b d F HP0.out.disk).mono ?_
        rintro e w4 ⟨b4, rfl, hD4, hk4⟩
        have HD4 := Lib.hid hD4
        have HP4 := Lib.hid (HP0.out.calm hk4)
        have HK4 := Lib.hid hk4
        clear hD4 hk4
        go_wp2_with fail
        refine (block_any _ 64 (by omega) 99).mono ?_
        rintro e w5 ⟨g5, rfl, ho5, hk5⟩
        have HD5 := Lib.hid (HD4.out.kept hk5 (fun _ _ f => f))
        have HP5 := Lib.hid (HP4.out.calm hk5)
        have HO5 := Lib.hid ho5
        have HK5 := Lib.hid hk5
        clear ho5 hk5 HP4
        go_wp2_with fail
        have s4 := HK4.out.size
        simp at s4
        refine (disk_write_any w5 b d F HP5.out.disk 0 _ (blockRow 64 99) _ HO5.out.reads (blockRow_bytes _ _) (fun j hj hF => by have := HBF.out j hF; simp [From] at hj; omega) (by omega)).mono ?_
        rintro e w6 ⟨ev, rfl, -, -, -, hk6⟩
        have HPx : Hid (Pair w b4 m d (fun j => (wr.alloc (.cells #[.int .i64 7, .int .i64 place, .int .i64 sn, .slice ka keep.length kc] 46)).heap.size ≤ j ∧ j < w4.heap.size) R w6) := by
          have s0 := HP.out.kept.size
          have s5 := HK5.out.size
          refine Lib.hid ⟨HD5.out.kept hk6 (fun j hj hF => by have := HBF.out j hF; simp at hj; omega), HP5.out.docOn hk6, fun j hj hr => ?_, fun hj => ?_, fun j hj => ?_, HP.out.newR, HP.out.newM, HP5.out.kept.from (Nat.le_refl _) (hk6.mono fun j _ hj => HP.out.newF j hj)⟩
          · have := HP.out.doc.under j hr; simp at hj; omega
          · simp at hj; omega
          · simp at hj; omega
        clear hk6 HD5 HP5 HO5 HK5 HD4 HK4
        go_wp2_with fail
        refine (same_any _ _ _ _ HPx.out.disk _ _ HPx.out.doc).mono ?_
        rintro e w7 ⟨rfl, hk7⟩
        have HR7 : Hid (PlayRel w (k + 1) (.pointer (some ⟨b4, 0, none⟩)) (.pointer (some ⟨m, 0, none⟩)) w7) := ⟨_, _, _, _, _, rfl, rfl, (by omega), HPx.out.calm hk7⟩
        clear hk7 HPx
        go_wp2_with fail
        go_roundw
        case rel => exact ⟨k + 1, by omega, by go_num, HR7.out⟩
        case measure => simp [intOf]; omega
      have e1 : (kind == 1) = false := beq_eq_false_iff_ne.2 k1
      have e2 : (kind == 2) = false := beq_eq_false_iff_ne.2 k2
      have e3 : (kind == 3) = false := beq_eq_false_iff_ne.2 k3
      have e4 : (kind == 4) = false := beq_eq_false_iff_ne.2 k4
      have e5 : (kind == 5) = false := beq_eq_false_iff_ne.2 k5
      have e6 : (kind == 6) = false := beq_eq_false_iff_ne.2 k6
      have e7 : (kind == 7) = false := beq_eq_false_iff_ne.2 k7
      clear k1 k2 k3 k4 k5 k6 k7
      have hP0 := HP.out.calm (Kept.alloc Nob wr (.cells #[.int .i64 kind, .int .i64 place, .int .i64 sn, .slice ka keep.length kc] 46))
      have HP0 := Lib.hid hP0
      have hbsF : ∀ j, F j → j < wr.heap.size := fun j hj => HP.out.disk.under j hj
      have hmr : m < wr.heap.size := HP.out.doc.lt
      have HBF := Lib.hid hbsF
      clear hP0 hbsF
      have HPx := HP0
      go_wp2_with fail
      refine (same_any _ _ _ _ HPx.out.disk _ _ HPx.out.doc).mono ?_
      rintro e w7 ⟨rfl, hk7⟩
      have HR7 : Hid (PlayRel w (k + 1) (.pointer (some ⟨b, 0, none⟩)) (.pointer (some ⟨m, 0, none⟩)) w7) := ⟨_, _, _, _, _, rfl, rfl, (by omega), HPx.out.calm hk7⟩
      clear hk7 HPx
      go_wp2_with fail
      go_roundw
      case rel => exact ⟨k + 1, by omega, by go_num, HR7.out⟩
      case measure => simp [intOf]; omega
    · go_wp2_with fail
      refine (awake_true _).mono ?_
      rintro e w7 ⟨rfl, hk7⟩
      have HK7 := Lib.hid (hP.kept.then hk7)
      clear hk7
      go_wp2_with fail
      go_ret
      exact ⟨rfl, HK7.out⟩

set_option maxRecDepth 100000 in
set_option maxHeartbeats 4000000 in
theorem plays_big (w : World) (n : Int) (v : Value) (l : List DStep) (h : StepsAt w v l (fun j => j < w.heap.size)) (h1 : 40 < n) :
    Calls Tryd.prog 4 #[.int .i64 n, v] w (RetTrue w) := by
  have HSM := Lib.hid (small_any w v l _ h)
  obtain ⟨a, cap, rfl⟩ := h.shape
  have n40 : decide (40 < n) = true := by simp; omega
  clear h
  go_enter Tryd.func4, Tryd.ntmps4
  go_wp2_with fail
  refine HSM.out.mono ?_
  rintro e w1 ⟨bb, rfl, hbb, hk1⟩
  have HK1 := Lib.hid hk1
  clear hk1 hbb
  cases bb
  all_goals
    go_wp2_with fail
    refine (awake_true _).mono ?_
    rintro e w2 ⟨rfl, hk2⟩
    have HK2 := Lib.hid (HK1.out.then hk2)
    clear hk2
    go_wp2_with fail
    go_ret
    exact ⟨rfl, HK2.out⟩

set_option maxRecDepth 100000 in
set_option maxHeartbeats 4000000 in
theorem plays_low (w : World) (n : Int) (v : Value) (l : List DStep) (h : StepsAt w v l (fun j => j < w.heap.size)) (h1 : n < 1) (ht : Typed w) :
    Calls Tryd.prog 4 #[.int .i64 n, v] w (RetTrue w) := by
  have HSM := Lib.hid (small_any w v l _ h)
  have HT := Lib.hid ht
  obtain ⟨a, cap, rfl⟩ := h.shape
  have n40 : decide (40 < n) = false := by simp; omega
  clear h ht
  go_enter Tryd.func4, Tryd.ntmps4
  go_wp2_with fail
  refine HSM.out.mono ?_
  rintro e w1 ⟨bb, rfl, hbb, hk1⟩
  have HK1 := Lib.hid hk1
  clear hk1 hbb
  cases bb
  · go_wp2_with fail
    refine (awake_true _).mono ?_
    rintro e w2 ⟨rfl, hk2⟩
    have HK2 := Lib.hid (HK1.out.then hk2)
    clear hk2
    go_wp2_with fail
    go_ret
    exact ⟨rfl, HK2.out⟩
  · go_wp2_with fail
    refine (disk_new_bad w1 n (.inl h1)).mono ?_
    rintro e w2 ⟨g2, rfl, hf2, hk2⟩
    have HF2 := Lib.hid hf2
    have HK2 := Lib.hid (HK1.out.then hk2)
    clear hf2 hk2
    have HB := Lib.hid (doc_new_bad w2 n (.inl h1))
    have HIs0 := is_this w2 _ opNew n 1 _ HF2.out (by omega) (by omega) (HT.out.nob HK2.out)
    unfold opNew at HIs0
    have HIs := Lib.hid HIs0
    clear HIs0
    go_wp2_with (first | (go_at_call 17; refine HB.out.mono ?_; rintro e w' ⟨rfl, rfl⟩) | (go_at_call 10; refine HIs.out.mono ?_; rintro e w3 ⟨rfl, hk3⟩; have HK3 := Lib.hid (HK2.out.then hk3); clear hk3))
    refine (awake_true _).mono ?_
    rintro e w4 ⟨rfl, hk4⟩
    have HK4 := Lib.hid (HK3.out.then hk4)
    clear hk4
    go_wp2_with fail
    go_ret
    exact ⟨rfl, HK4.out⟩

/-- DiskPlays, of whatever steps -/
theorem plays_any (w : World) (n : Int) (v : Value) (l : List DStep) (h : StepsAt w v l (fun j => j < w.heap.size)) (ht : Typed w) :
    Calls Tryd.prog 4 #[.int .i64 n, v] w (RetTrue w) := by
  by_cases h1 : n < 1
  · exact plays_low w n v l h h1 ht
  · by_cases h2 : 40 < n
    · exact plays_big w n v l h h2
    · obtain ⟨k, rfl⟩ : ∃ k : Nat, n = k := ⟨n.toNat, by omega⟩
      exact plays_main w k v l h (by omega) (by omega) ht
end Go.Proofs.YthjjckpgjfjokaaDoor
