/- The log: what it is in memory; sector, bytes. -/
import Derived.Test.YtcclbaphdblcfaaDoorPgWal4
namespace Go.Proofs.YtcclbaphdblcfaaDoor
open Go.RowKit

/-- The struct at block b, and what it leads to, is the log L on the disk at block bd; its records are read alone, from blocks in R. -/
def LogAt (w : World) (b bd : Nat) (L : Wal.Lg) (R : Nat → Prop) : Prop :=
  ∃ rv vs, w.heap[b]? = some (.cells #[.pointer (some ⟨bd, 0, none⟩), .int .i64 L.frm, .int .i64 L.half, .int .i64 L.hf, .int .i64 L.base, .int .i64 L.first, .int .i64 L.size, rv, .bool false] 70 (0, 0)) ∧ ¬ R b ∧
    Reads w rv vs R ∧ ReadRows w vs L.recs R ∧ Under R w.heap.size
theorem LogAt.under {w : World} {b bd : Nat} {L : Wal.Lg} {R : Nat → Prop} (h : LogAt w b bd L R) : Under R w.heap.size := by obtain ⟨_, _, _, _, _, _, h⟩ := h; exact h
theorem LogAt.lt {w : World} {b bd : Nat} {L : Wal.Lg} {R : Nat → Prop} (h : LogAt w b bd L R) : b < w.heap.size := by obtain ⟨_, _, hb, _⟩ := h; exact (Array.getElem?_eq_some_iff.1 hb).1
theorem LogAt.kept {w w' : World} {b bd : Nat} {L : Wal.Lg} {R G : Nat → Prop} (h : LogAt w b bd L R) (hk : Kept G w w') (hb : ¬ G b) (hd : Disj R G) : LogAt w' b bd L R := by
  have hlt := h.lt
  obtain ⟨rv, vs, h1, h2, h3, h4, h5⟩ := h
  exact ⟨rv, vs, (hk.block b hlt hb).trans h1, h2, h3.kept hk hd, h4.kept hk hd, h5.mono hk.size⟩

/-- the three cells of a log that never turn -/
structure LogHead (w : World) (b bd frm half : Nat) : Prop where
  c0 : w.cell? ⟨b, 0, none⟩ = some (.pointer (some ⟨bd, 0, none⟩))
  c1 : w.cell? ⟨b, 1, none⟩ = some (.int .i64 frm)
  c2 : w.cell? ⟨b, 2, none⟩ = some (.int .i64 half)
theorem LogHead.kept {w w' : World} {b bd frm half : Nat} {G : Nat → Prop} (h : LogHead w b bd frm half) (hk : Kept G w w') (hb : ¬ G b) : LogHead w' b bd frm half :=
  ⟨(hk.cell (cell_lt h.c0) hb).trans h.c0, (hk.cell (cell_lt h.c1) hb).trans h.c1, (hk.cell (cell_lt h.c2) hb).trans h.c2⟩
theorem LogAt.head {w : World} {b bd : Nat} {L : Wal.Lg} {R : Nat → Prop} (h : LogAt w b bd L R) : LogHead w b bd L.frm L.half := by
  obtain ⟨_, _, hb, _⟩ := h
  exact ⟨cell_at hb 0 _ rfl, cell_at hb 1 _ rfl, cell_at hb 2 _ rfl⟩

theorem sector_any (w : World) (b bd frm half : Nat) (h : LogHead w b bd frm half) (hf k : Nat) (h1 : hf ≤ 1) (h2 : frm ≤ 10000) (h3 : half ≤ 10000) (h4 : k ≤ 10000) :
    Calls Tryd.prog 62 #[.pointer (some ⟨b, 0, none⟩), .int .i64 hf, .int .i64 k] w fun e w' => e = .returned (.int .i64 ((frm + 1 + hf * half + k : Nat) : Int)) ∧ ∃ n, w' = w.drewN n := by
  have c1 := h.c1
  have c2 := h.c2
  clear h
  obtain rfl | rfl : hf = 0 ∨ hf = 1 := by omega
  all_goals
    go_enter Tryd.func62, Tryd.ntmps62
    go_wp2_with fail
    go_quiet (fail)
    go_wp2_with fail
    go_ret
    refine ⟨ret_int (by push_cast; omega), nq, rfl⟩

theorem disk_read_at (w : World) (b : Nat) (d : Dsk) (F : Nat → Prop) (h : DiskAt w b d F) (s : Nat) (hs : s < d.good.length) (n : Nat) :
    Calls Tryd.prog 21 #[.pointer (some ⟨b, 0, none⟩), .int .i64 s] (w.drewN n) (RetRead (w.drewN n) (d.now.getD s [])) :=
  disk_read _ b d F (h.kept (Kept.drewN Nob w n) (fun _ _ f => f)) s hs

/-- inside 'bytes': j sectors are read -/
def BytesRel (w : World) (now : List (List Value)) (s E j : Nat) (v : Value) (wr : World) : Prop :=
  ∃ b n cap, v = .slice b n cap ∧ Own wr 5 v ((Wal.flat now s j).take E) (From w.heap.size) ∧ Kept Nob w wr

set_option maxRecDepth 100000 in
set_option maxHeartbeats 4000000 in
theorem log_bytes (w : World) (b bd frm half : Nat) (d : Dsk) (F : Nat → Prop) (h : LogHead w b bd frm half) (hD : DiskAt w bd d F) (hf k E m : Nat) (h1 : hf ≤ 1) (h2 : frm ≤ 10000) (h3 : half ≤ 10000) (h4 : k + m ≤ half) (h5 : frm + 1 + 2 * half ≤ d.good.length)
    (hm : m = (E + 63) / 64) :
    Calls Tryd.prog 47 #[.pointer (some ⟨b, 0, none⟩), .int .i64 hf, .int .i64 k, .int .i64 (64 * (k : Int) + (E : Int))] w fun e w' =>
      ∃ a n cap, e = .returned (.slice a n cap) ∧ Own w' 5 (.slice a n cap) ((Wal.flat d.now (frm + 1 + hf * half + k) m).take E) (From w.heap.size) ∧ Kept Nob w w' := by
  have hh2 : hf * half ≤ half := by
    have := Nat.mul_le_mul_right half h1
    omega
  obtain ⟨s, hs⟩ : ∃ s, s = frm + 1 + hf * half + k := ⟨_, rfl⟩
  rw [← hs]
  have hsm : s + m ≤ d.good.length := by omega
  have HH := Lib.hid h
  have HD := Lib.hid hD
  have hbl := cell_lt h.c0
  have HS := Lib.hid hs
  have HM := Lib.hid hm
  have HR0 : Hid (BytesRel w d.now s E 0 (.slice none 0 0) w) := ⟨none, 0, 0, rfl, by simpa [Wal.flat] using Own.nil w 5 (From w.heap.size), Kept.refl _ _⟩
  clear h hD hs hm
  go_enter Tryd.func47, Tryd.ntmps47
  go_wp2
  go_loopw [2, 8] (fun i o wr => ∃ j : Nat, j ≤ m ∧ i = .int .i64 ((k : Int) + (j : Int)) ∧ BytesRel w d.now s E j o wr) (fun i _ _ => k + m - (intOf i).toNat)
  case atStart => exact ⟨0, Nat.zero_le _, by simp, HR0.out⟩
  case round =>
    clear HR0
    obtain ⟨j, hj, rfl, oa, on, oc, rfl, ho, hkw⟩ := hrel
    have HO := Lib.hid ho
    have HK := Lib.hid hkw
    have hd := HH.out.kept hkw (fun f => f)
    have c0 := hd.c0
    have HHr := Lib.hid hd
    have HDr := Lib.hid (HD.out.kept hkw (fun _ _ f => f))
    have ht1 := HM.out
    have hEb : E ≤ 64 * 10000 := by omega
    by_cases hlt : j < m
    · have hjE : 64 * j < E := by omega
      have htest : (((k : Int) + (j : Int)) * 64 < 64 * (k : Int) + (E : Int)) := by omega
      have hX := Dsk.Sectors.getD HD.out.wf.now (i := s + j) (by rw [HD.out.wf.len]; omega)
      have HX := Lib.hid hX
      have HRd := Lib.hid (show ∀ n, Calls Tryd.prog 21 #[.pointer (some ⟨bd, 0, none⟩), .int .i64 ((s : Int) + (j : Int))] (wr.drewN n) (RetRead (wr.drewN n) (d.now.getD (s + j) [])) from fun n => by have := disk_read_at wr bd d F HDr.out (s + j) (by omega) n; simpa using this)
      have HSe := Lib.hid (show Calls Tryd.prog 62 #[.pointer (some ⟨b, 0, none⟩), .int .i64 hf, .int .i64 ((k : Int) + (j : Int))] wr.drew fun e w' => e = .returned (.int .i64 ((frm + 1 + hf * half + (k + j) : Nat) : Int)) ∧ ∃ n, w' = wr.drew.drewN n from by have := sector_any wr.drew b bd frm half (HHr.out.kept (Kept.drew Nob wr) (fun f => f)) hf (k + j) h1 h2 h3 (by omega); simpa using this)
      have HSs : Hid (frm + 1 + hf * half + (k + j) = s + j) := by
        have := HS.out
        show _ = _
        omega
      clear ho hkw hd hX ht1
      go_wp2_with fail
      go_region_held3 (fun w' => w'.cell? ⟨b, 0, none⟩ = some (.pointer (some ⟨bd, 0, none⟩))) (first | (go_keep; done) | assumption)
        ((first
          | (go_at_call 62; refine HSe.out.mono ?_; rintro e w2 ⟨rfl, n2, rfl⟩; rw [HSs.out]; have q0 : (wr.drew.drewN n2).cell? ⟨b, 0, none⟩ = some (.pointer (some ⟨bd, 0, none⟩)) := c0)
          | (go_at_call 21; refine (HRd.out _).mono ?_; rintro e w3 ⟨b3, c3, rfl, ho3, hk3⟩; rw [HX.out.1] at ho3 ⊢; have q1 := (hk3.cell (p := ⟨b, 0, none⟩) (cell_lt q0) (fun f => f)).trans q0; have HO3 := Lib.hid ho3; have HK3 := Lib.hid hk3; clear ho3 hk3)))
      obtain ⟨db, dq, rfl, -, hc3, -, -⟩ := HO3.out.reads.some' (by rw [HX.out.1]; omega)
      rw [HX.out.1] at hc3
      have HKr := Lib.hid ((HK.out.then (Kept.drewN Nob wr (1 + n2))).then HK3.out)
      have HOk := Lib.hid (HO.out.kept ((Kept.drewN Nob wr (1 + n2)).then HK3.out) (fun _ _ f => f))
      have HOn := Lib.hid HO.out.len
      by_cases hfull : 64 * (j + 1) ≤ E
      · have hmin : (64 : Int) ≤ 64 * (k : Int) + (E : Int) - ((k : Int) + (j : Int)) * 64 := by omega
        have HXr := Lib.hid HO3.out.reads
        have HX1 : Hid (∀ u ∈ d.now.getD (s + j) [], u.oneCell' = true) := fun u hu => (HX.out.2 u hu).one
        go_wp2_with (at_builtin; refine wpList_append_pg rfl _ _ 47 rfl tBytes (.slice oa on oc) (.slice (some ⟨db, dq, none⟩) 64 c3) ((Wal.flat d.now s j).take E) (d.now.getD (s + j) []) _ _ rfl rfl HOk.out HXr.out HX1.out (by simp only [List.length_take]; rw [HX.out.1]; have hfl : (Wal.flat d.now s j).length = 64 * j := Wal.flat_length HD.out.wf.now j (by rw [HD.out.wf.len]; omega); omega) ?_; intro b4 c4 w4 ho4 hk4 _; have HO4 := Lib.hid ho4; have HK4 := Lib.hid hk4; clear ho4 hk4)
        have hN : BytesRel w d.now s E (j + 1) (.slice b4 (((Wal.flat d.now s j).take E).length + (d.now.getD (s + j) []).length) c4) w4 := by
          have hfl : (Wal.flat d.now s j).length = 64 * j := Wal.flat_length HD.out.wf.now j (by rw [HD.out.wf.len]; omega)
          have e : (Wal.flat d.now s (j + 1)).take E = (Wal.flat d.now s j).take E ++ (d.now.getD (s + j) []) := by
            rw [Wal.flat, List.take_append, hfl]
            congr 1
            exact List.take_of_length_le (by rw [HX.out.1]; omega)
          have ho := HO4.out.mono (G := From w.heap.size) (fun x _ hx => by
            rcases hx with hx | hx
            · exact HO.out.2 x hx
            · have := HKr.out.size; show _ ≤ _; omega)
          exact ⟨b4, _, c4, rfl, by rw [e]; exact ho, HKr.out.from (Nat.le_refl _) (HK4.out.mono fun x _ hx => HO.out.2 x hx)⟩
        have HN := Lib.hid hN
        clear hN
        go_roundw
        case rel => exact ⟨j + 1, by omega, by go_num, by simpa only [List.length_take, List.getD_eq_getElem?_getD] using HN.out⟩
        case measure => simp [intOf]; omega
      · have hmin : 64 * (k : Int) + (E : Int) - ((k : Int) + (j : Int)) * 64 < 64 := by omega
        have hmin0 : 0 ≤ 64 * (k : Int) + (E : Int) - ((k : Int) + (j : Int)) * 64 := by omega
        have HXr := Lib.hid (HO3.out.reads.take' (64 * k + E - (k + j) * 64) (by rw [HX.out.1]; omega) rfl)
        have HX1 : Hid (∀ u ∈ (d.now.getD (s + j) []).take (64 * k + E - (k + j) * 64), u.oneCell' = true) := fun u hu => (HX.out.2 u (List.mem_of_mem_take hu)).one
        go_wp2_with (at_builtin; refine wpList_append_pg rfl _ _ 47 rfl tBytes (.slice oa on oc) (.slice (some ⟨db, dq, none⟩) (64 * k + E - (k + j) * 64) c3) ((Wal.flat d.now s j).take E) ((d.now.getD (s + j) []).take (64 * k + E - (k + j) * 64)) _ _ rfl rfl HOk.out HXr.out HX1.out (by simp only [List.length_take]; have hfl : (Wal.flat d.now s j).length = 64 * j := Wal.flat_length HD.out.wf.now j (by rw [HD.out.wf.len]; omega); omega) ?_; intro b4 c4 w4 ho4 hk4 _; have HO4 := Lib.hid ho4; have HK4 := Lib.hid hk4; clear ho4 hk4)
        have hN : BytesRel w d.now s E (j + 1) (.slice b4 (((Wal.flat d.now s j).take E).length + ((d.now.getD (s + j) []).take (64 * k + E - (k + j) * 64)).length) c4) w4 := by
          have hfl : (Wal.flat d.now s j).length = 64 * j := Wal.flat_length HD.out.wf.now j (by rw [HD.out.wf.len]; omega)
          have e : (Wal.flat d.now s (j + 1)).take E = (Wal.flat d.now s j).take E ++ ((d.now.getD (s + j) []).take (64 * k + E - (k + j) * 64)) := by
            rw [Wal.flat, List.take_append, hfl]
            congr 1
            congr 1; omega
          have ho := HO4.out.mono (G := From w.heap.size) (fun x _ hx => by
            rcases hx with hx | hx
            · exact HO.out.2 x hx
            · have := HKr.out.size; show _ ≤ _; omega)
          exact ⟨b4, _, c4, rfl, by rw [e]; exact ho, HKr.out.from (Nat.le_refl _) (HK4.out.mono fun x _ hx => HO.out.2 x hx)⟩
        have HN := Lib.hid hN
        clear hN
        go_roundw
        case rel => exact ⟨j + 1, by omega, by go_num, by simpa only [List.length_take, List.getD_eq_getElem?_getD] using HN.out⟩
        case measure => simp [intOf]; omega
    · have hjm : j = m := by omega
      have htest : ¬ (((k : Int) + (j : Int)) * 64 < 64 * (k : Int) + (E : Int)) := by omega
      have HJ := Lib.hid hjm
      clear ho hkw hd hjm ht1
      go_wp2_with fail
      go_ret
      exact ⟨oa, on, oc, rfl, by rw [← HJ.out]; exact HO.out, HK.out⟩
/-- bytes of a half, from its first one on -/
theorem log_bytes0 (w : World) (b bd frm half : Nat) (d : Dsk) (F : Nat → Prop) (h : LogHead w b bd frm half) (hD : DiskAt w bd d F) (hf E m : Nat) (h1 : hf ≤ 1) (h2 : frm ≤ 10000) (h3 : half ≤ 10000) (h4 : m ≤ half) (h5 : frm + 1 + 2 * half ≤ d.good.length)
    (hm : m = (E + 63) / 64) :
    Calls Tryd.prog 47 #[.pointer (some ⟨b, 0, none⟩), .int .i64 hf, .int .i64 0, .int .i64 (E : Int)] w fun e w' =>
      ∃ a n cap, e = .returned (.slice a n cap) ∧ Own w' 5 (.slice a n cap) ((Wal.flat d.now (frm + 1 + hf * half) m).take E) (From w.heap.size) ∧ Kept Nob w w' := by
  have h := log_bytes w b bd frm half d F h hD hf 0 E m h1 h2 h3 (by omega) h5 hm
  simpa using h
end Go.Proofs.YtcclbaphdblcfaaDoor
