/- The log: Trim. -/
import Derived.Test.YtcclbaphdblcfaaDoorPgWal17
import Derived.Deep.DeepCutAuto
namespace Go.Proofs.YtcclbaphdblcfaaDoor
open Go.RowKit

theorem log_trim_none (w : World) (b bd : Nat) (L : Wal.Lg) (R : Nat → Prop) (d : Dsk) (F : Nat → Prop) (h : LogAt w b bd L R) (hOn : Wal.On d.now L) (hD : DiskAt w bd d F) (hbF : ¬ F b) (hl : Wal.Live d) (hcalm : d.order = []) (hRF : Disj R F) :
    Calls Tryd.prog 18 #[.pointer (some ⟨b, 0, none⟩), .int .i64 L.first] w fun e w' => e = .returned .nilIface ∧ LogTo w b bd d F R L (L.trim L.first) w' := by
  have hs := hOn.fits.small
  have HF := Lib.hid (log_first w b bd L R h)
  have HLn := Lib.hid (log_len w b bd L R h hs)
  have HDd := Lib.hid (fun n => log_dead (w.drewN n) b bd L R (h.kept (Kept.drewN Nob w n) (fun f => f) (fun _ _ f => f)))
  have HLg := Lib.hid h
  have c5 : w.cell? ⟨b, 5, none⟩ = some (.int .i64 L.first) := by obtain ⟨rv, vs, hb, -⟩ := h; exact cell_at hb 5 _ rfl
  have HOn := Lib.hid hOn
  have HD := Lib.hid hD
  have HRF := Lib.hid hRF
  have a1 : decide (L.first < L.first) = false := by simp
  have a2 : decide ((L.first : Int) + (L.recs.length : Int) < (L.first : Int)) = false := by simp; omega
  clear h hOn hD hRF
  go_enter Tryd.func18, Tryd.ntmps18
  go_wp2_with (first | (go_at_call 26; refine HF.out.mono ?_; rintro e w' ⟨rfl, rfl⟩) | (go_at_call 25; refine HLn.out.mono ?_; rintro e w1 ⟨rfl, n1, rfl⟩) | (go_at_call 20; refine (HDd.out _).mono ?_; rintro e w1 ⟨rfl, rfl⟩))
  go_ret
  have e : L.trim L.first = L := by simp [Wal.Lg.trim]
  have k := Kept.drewN Nob w n1
  refine ⟨rfl, d, F, R, HD.out.kept k (fun _ _ f => f), Grows.refl _ _, k.nob, ⟨hl, hcalm, rfl, by omega, by rw [e]; exact HOn.out, fun i _ => rfl⟩, by rw [e]; exact HLg.out.kept k (fun f => f) (fun _ _ f => f), Grows.refl _ _, HRF.out, hbF⟩

set_option maxRecDepth 100000 in
set_option maxHeartbeats 4000000 in
theorem log_trim_some (w : World) (b bd : Nat) (L : Wal.Lg) (R : Nat → Prop) (d : Dsk) (F : Nat → Prop) (h : LogAt w b bd L R) (hOn : Wal.On d.now L) (hD : DiskAt w bd d F) (hbF : ¬ F b) (hl : Wal.Live d) (hops : d.ops ≤ 1000000000000) (hRF : Disj R F) (k : Nat) (hk1 : L.first < k) (hk2 : k ≤ L.first + L.recs.length) :
    Calls Tryd.prog 18 #[.pointer (some ⟨b, 0, none⟩), .int .i64 k] w fun e w' => e = .returned .nilIface ∧ LogTo w b bd d F R L (L.trim k) w' := by
  have hfit := hOn.fits
  have hs := hfit.small
  have hmost := hD.wf.most
  have hnl : d.now.length = d.good.length := hD.wf.len
  have hroom := hfit.room
  have h1 := hfit.hf
  have h4 := hfit.size
  have h3 := hfit.base
  have hrl : L.recs.length ≤ 800000 := by
    obtain ⟨dead, -, -, -, e⟩ := hOn.body
    have := Wal.weight_two (dead ++ L.recs)
    rw [List.length_append] at this
    omega
  have HF := Lib.hid (log_first w b bd L R h)
  have HLn := Lib.hid (log_len w b bd L R h hs)
  have HDd := Lib.hid (fun n => log_dead (w.drewN n) b bd L R (h.kept (Kept.drewN Nob w n) (fun f => f) (fun _ _ f => f)))
  have HLg := Lib.hid h
  obtain ⟨rv, vs0, hb, hRb, hrv, hvs0, hRu⟩ := h
  have hv0l := hvs0.1
  obtain ⟨ra, rc, rfl, -⟩ := hrv.shape
  obtain ⟨bb, oo, rfl, -, hcap, -, -⟩ := hrv.some' (by omega)
  have hbl : b < w.heap.size := (Array.getElem?_eq_some_iff.1 hb).1
  have hne : b ≠ w.heap.size := Nat.ne_of_lt hbl
  have c3 : w.cell? ⟨b, 3, none⟩ = some (.int .i64 L.hf) := cell_at hb 3 _ rfl
  have c4 : w.cell? ⟨b, 4, none⟩ = some (.int .i64 L.base) := cell_at hb 4 _ rfl
  have c5 : w.cell? ⟨b, 5, none⟩ = some (.int .i64 L.first) := cell_at hb 5 _ rfl
  have c6 : w.cell? ⟨b, 6, none⟩ = some (.int .i64 L.size) := cell_at hb 6 _ rfl
  have c7 : w.cell? ⟨b, 7, none⟩ = some (.slice (some ⟨bb, oo, none⟩) vs0.length rc) := cell_at hb 7 _ rfl
  obtain ⟨j, hj⟩ : ∃ j, j = k - L.first := ⟨_, rfl⟩
  have hj0 : 0 < j := by omega
  have hjl : j ≤ vs0.length := by omega
  have HJ := Lib.hid hj
  have HB := Lib.hid hb
  have HOn := Lib.hid hOn
  have HD := Lib.hid hD
  have HbF := Lib.hid hbF
  have HLv := Lib.hid hl
  have HRF := Lib.hid hRF
  have HRv := Lib.hid hrv
  have HV0 := Lib.hid hvs0
  have HRb := Lib.hid hRb
  have HRu := Lib.hid hRu
  have HV0l := Lib.hid hv0l
  have HOne := Lib.hid (show ∀ u ∈ vs0.drop j, u.oneCell' = true from fun u hu => hvs0.one u (List.mem_of_mem_drop hu))
  have hdl : (vs0.drop j).length = vs0.length - j := List.length_drop
  have HDl := Lib.hid (show (vs0.drop j).length ≤ 800000 from by omega)
  have HDm := Lib.hid hdl
  have a1 : decide (k < L.first) = false := by simp; omega
  have a2 : decide ((L.first : Int) + (L.recs.length : Int) < (k : Int)) = false := by simp; omega
  have a3 : ¬ k = L.first := by omega
  have a5 : ((k : Int) == (L.first : Int)) = false := by simp; omega
  have a4 : ¬ (k : Int) = (L.first : Int) := by omega
  have i2 : IntKind.i64.wrap ((k : Int) - (L.first : Int)) = (j : Int) := by rw [IntWalk.i64_in _ (by omega)]; omega
  have i3 : (j : Int) ≤ (vs0.length : Int) := by omega
  have i4 : (vs0.length : Int) ≤ (rc : Int) := by omega
  have HSf := Lib.hid (hrv.from' j hjl)
  clear hb hOn hD hbF hl hRF hrv hvs0 hRb hRu hv0l hdl hj hfit hnl
  by_cases hcj : rc = j
  · subst hcj
    have hjj : vs0.length = rc := by omega
    have HSl := Lib.hid (show Reads w (.slice (some ⟨bb, oo, none⟩) 0 0) (vs0.drop rc) R from .inl ⟨List.drop_of_length_le (by omega), some ⟨bb, oo, none⟩, 0, rfl, fun h => by cases h⟩)
    have HDm : Hid ((vs0.drop rc).length = 0) := Lib.hid (by rw [HDm.out]; omega)
    have HCl := Lib.hid (fun W (q : Kept Nob w W) => clone_rows W (.slice (some ⟨bb, oo, none⟩) 0 0) (vs0.drop rc) R (HSl.out.kept q (fun _ _ f => f)) HOne.out (by have := HDl.out; omega))
    go_enter Tryd.func18, Tryd.ntmps18
    go_upto_region 7 with (first | (go_at_call 26; refine HF.out.mono ?_; rintro e w' ⟨rfl, rfl⟩) | (go_at_call 25; refine HLn.out.mono ?_; rintro e w1 ⟨rfl, n1, rfl⟩) | (go_at_call 20; refine (HDd.out _).mono ?_; rintro e w1 ⟨rfl, rfl⟩))
    go_cut [5, 6] (fun s5 s6 wx => ∃ pb ba ca, s5 = .pointer (some ⟨pb, 0, none⟩) ∧ w.heap.size ≤ pb ∧ s6 = .slice ba 0 ca ∧ Reads wx s6 (vs0.drop rc) (fun x => w.heap.size ≤ x ∧ x < wx.heap.size ∧ x ≠ pb) ∧ wx.heap[pb]? = some (.cells #[.int .i64 L.hf, .int .i64 L.base, .int .i64 L.first, .int .i64 L.size] 68 (0, 0)) ∧ Kept Nob w wx)
    case first =>
      go_region_held3 (fun w' => w'.cell? ⟨b, 3, none⟩ = some (.int .i64 L.hf) ∧ w'.cell? ⟨b, 4, none⟩ = some (.int .i64 L.base) ∧ w'.cell? ⟨b, 5, none⟩ = some (.int .i64 L.first) ∧ w'.cell? ⟨b, 6, none⟩ = some (.int .i64 L.size) ∧ w'.cell? ⟨b, 7, none⟩ = some (.slice (some ⟨bb, oo, none⟩) vs0.length rc)) (first | (with_reducible (go_split_ands; exact ⟨‹_›, ‹_›, ‹_›, ‹_›, ‹_›⟩)) | (go_split_ands; with_reducible refine ⟨cell_set4 _ ?_ hne, cell_set4 _ ?_ hne, cell_set4 _ ?_ hne, cell_set4 _ ?_ hne, cell_set4 _ ?_ hne⟩; all_goals (with_reducible assumption)) | (go_keep; done))
        ((first
          | (go_at_call 39; (with_reducible refine (HCl.out _ (Kept.drewN Nob w _)).mono ?_); rintro e w2 ⟨ba, ca, rfl, ho2, hk2, -⟩; rw [HDm.out] at ho2 ⊢; have k2 := (Kept.drewN Nob w _).trans' hk2; have HO2 := Lib.hid (show Own w2 47 (.slice ba 0 ca) (vs0.drop rc) (From w.heap.size) from ho2); have q3 := (k2.cell (p := ⟨b, 3, none⟩) hbl (fun f => f)).trans c3; have q4 := (k2.cell (p := ⟨b, 4, none⟩) hbl (fun f => f)).trans c4; have q5 := (k2.cell (p := ⟨b, 5, none⟩) hbl (fun f => f)).trans c5; have q6 := (k2.cell (p := ⟨b, 6, none⟩) hbl (fun f => f)).trans c6; have q7 := (k2.cell (p := ⟨b, 7, none⟩) hbl (fun f => f)).trans c7; have hb2 := cell_lt q3; have HK2 := Lib.hid k2; clear ho2 hk2 k2)
          | (go_at_call 39; (with_reducible refine (HCl.out _ ((Kept.drewN Nob w _).trans' (Kept.alloc Nob _ (.cells #[.int .i64 0, .int .i64 0, .int .i64 0, .int .i64 0] 68)))).mono ?_); rintro e w2 ⟨ba, ca, rfl, ho2, hk2, -⟩; rw [HDm.out] at ho2 ⊢; have k2 := ((Kept.drewN Nob w _).trans' (Kept.alloc Nob _ (.cells #[.int .i64 0, .int .i64 0, .int .i64 0, .int .i64 0] 68))).trans' hk2; have hx2 := (hk2.block w.heap.size (by simp) (fun f => f)).trans (heap_alloc_new (w.drewN _) _); have z0 : w2.cell? ⟨w.heap.size, 0, none⟩ = some (.int .i64 0) := cell_at hx2 0 _ rfl; have z1 : w2.cell? ⟨w.heap.size, 1, none⟩ = some (.int .i64 0) := cell_at hx2 1 _ rfl; have z2 : w2.cell? ⟨w.heap.size, 2, none⟩ = some (.int .i64 0) := cell_at hx2 2 _ rfl; have z3 : w2.cell? ⟨w.heap.size, 3, none⟩ = some (.int .i64 0) := cell_at hx2 3 _ rfl; have f0 : w2.frozen? ⟨w.heap.size, 0, none⟩ = false := frozen_at hx2 0; have f1 : w2.frozen? ⟨w.heap.size, 1, none⟩ = false := frozen_at hx2 1; have f2 : w2.frozen? ⟨w.heap.size, 2, none⟩ = false := frozen_at hx2 2; have f3 : w2.frozen? ⟨w.heap.size, 3, none⟩ = false := frozen_at hx2 3; have HX2 := Lib.hid hx2; clear hx2; have HO2 := Lib.hid (show Own w2 47 (.slice ba 0 ca) (vs0.drop rc) (fun x => w.heap.size < x) from ho2.mono (fun x _ hx => by simp [From] at hx; omega)); have q3 := (k2.cell (p := ⟨b, 3, none⟩) hbl (fun f => f)).trans c3; have q4 := (k2.cell (p := ⟨b, 4, none⟩) hbl (fun f => f)).trans c4; have q5 := (k2.cell (p := ⟨b, 5, none⟩) hbl (fun f => f)).trans c5; have q6 := (k2.cell (p := ⟨b, 6, none⟩) hbl (fun f => f)).trans c6; have q7 := (k2.cell (p := ⟨b, 7, none⟩) hbl (fun f => f)).trans c7; have hb2 := cell_lt q3; have HK2 := Lib.hid k2; clear ho2 hk2 k2)))
      · go_wp2_with fail
        go_meet
        exact ⟨w2.heap.size, ba, ca, rfl, HK2.out.size, rfl, ((HO2.out.reads.mono (G := fun x => w.heap.size ≤ x ∧ x < w2.heap.size) fun x hx h => ⟨h, hx⟩).alloc _).mono (fun x _ h => ⟨h.1, by have := h.2; simp; omega, by have := h.2; omega⟩), heap_alloc_new w2 _, HK2.out.trans' (Kept.alloc Nob w2 _)⟩
      · go_wp2_with fail
        go_meet
        exact ⟨w.heap.size, ba, ca, rfl, Nat.le_refl _, rfl, (HO2.out.reads.kept (kept4 w2 w.heap.size _ _ _ _) (fun x hx h => by have h : x = w.heap.size := h; omega)).mono (fun x hx h => ⟨Nat.le_of_lt h, hx, by omega⟩), heap4 w2 w.heap.size _ _ _ _ _ _ _ _ _ HX2.out, HK2.out.from (Nat.le_refl _) ((kept4 w2 w.heap.size _ _ _ _).mono fun x _ h => by have h : x = w.heap.size := h; show _ ≤ _; omega)⟩
    case rest =>
      obtain ⟨pb, ba, ca, rfl, hpb, rfl, hr6, hbx, kx⟩ := hcut
      have p0 : wc.cell? ⟨pb, 0, none⟩ = some (.int .i64 L.hf) := cell_at hbx 0 _ rfl
      have p1 : wc.cell? ⟨pb, 1, none⟩ = some (.int .i64 L.base) := cell_at hbx 1 _ rfl
      have p2 : wc.cell? ⟨pb, 2, none⟩ = some (.int .i64 L.first) := cell_at hbx 2 _ rfl
      have p3 : wc.cell? ⟨pb, 3, none⟩ = some (.int .i64 L.size) := cell_at hbx 3 _ rfl
      have p2f : wc.frozen? ⟨pb, 2, none⟩ = false := frozen_at hbx 2
      have kS := kept1 wc pb 2 (.int .i64 k)
      have k5 : Kept Nob w (wc.setCell ⟨pb, 2, none⟩ (.int .i64 k)) := kx.from (Nat.le_refl _) (kS.mono fun x _ h => by have h : x = pb := h; show _ ≤ _; omega)
      have hOnT := HOn.out.trim (k := k) (by omega) hk2
      have hfT := hOnT.fits
      rw [Wal.markPut_length] at hfT
      have hRw : ∀ x, (R x ∨ (w.heap.size ≤ x ∧ x < wc.heap.size)) → x < wc.heap.size := fun x hx => by
        rcases hx with q | q
        · have := HRu.out x q; have := kx.size; omega
        · exact q.2
      have hRF' : ∀ x, (R x ∨ (w.heap.size ≤ x ∧ x < wc.heap.size)) → ¬ F x := fun x q f => by
        rcases q with q | q
        · exact HRF.out x q f
        · have := HD.out.under x f; omega
      have hTl : Calls Tryd.prog 40 #[.pointer (some ⟨b, 0, none⟩), .agg #[.int .i64 L.hf, .int .i64 L.base, .int .i64 k, .int .i64 L.size], .slice ba 0 ca] (wc.setCell ⟨pb, 2, none⟩ (.int .i64 k)) (RetTold (wc.setCell ⟨pb, 2, none⟩ (.int .i64 k)) b bd d F (L.trim k) (fun x => R x ∨ (w.heap.size ≤ x ∧ x < wc.heap.size))) :=
        log_tell (wc.setCell ⟨pb, 2, none⟩ (.int .i64 k)) b bd L (L.trim k) R _ d F (HLg.out.kept k5 (fun f => f) (fun _ _ f => f)) rfl rfl (HD.out.kept k5 (fun _ _ f => f)) HbF.out HLv.out (by omega) hfT (.slice ba 0 ca) (vs0.drop rc)
          ((hr6.kept kS (fun x hx h => hx.2.2 h)).mono fun x _ h => .inr ⟨h.1, h.2.1⟩) (by show ReadRows _ (vs0.drop rc) (L.recs.drop (k - L.first)) _; rw [← HJ.out]; exact ((HV0.out.kept k5 (fun _ _ f => f)).mono fun x _ h => .inl h).drop rc)
          (fun q => by rcases q with q | q; exact HRb.out q; omega) hRF' (fun x q => by have := hRw x q; have := kS.size; omega)
      have HTl := Lib.hid hTl
      have HK5 := Lib.hid k5
      have HOnT := Lib.hid hOnT
      have HRw := Lib.hid hRw
      have hsz : w.heap.size ≤ wc.heap.size := kx.size
      clear hTl k5 hOnT hRw hRF' kS hfT hr6 hbx kx
      go_wp2_with (first | (go_at_call 40; refine HTl.out.mono ?_; rintro e w6 ⟨rfl, d6, F6, hD6, hg6, hk6, hl6, ho6, hn6, hp6, hL6, hb6⟩) | (go_at_call 29; refine (fault_none _ _ _).mono ?_; rintro e w7 ⟨rfl, rfl⟩))
      go_ret
      have hs5 := HK5.out.size
      refine ⟨rfl, d6, F6, _, hD6, fun x hx => ?_, HK5.out.nob.trans' hk6, ⟨hl6, ho6, by rw [hn6, Wal.markPut_length], by omega, by rw [hn6]; exact HOnT.out, fun i hi => ?_⟩, hL6, fun x hx => ?_, fun x q q6 => ?_, hb6⟩
      · rcases hg6 x hx with q | q
        · exact .inl q
        · exact .inr (by omega)
      · rw [hn6]
        exact Wal.markPut_other (show i ≠ L.frm by omega)
      · rcases hx with q | q
        · exact .inl q
        · exact .inr q.1
      · have h1 := HRw.out x q
        rcases hg6 x q6 with q1 | q1
        · rcases q with q | q
          · exact HRF.out x q q1
          · have := HD.out.under x q1; omega
        · simp at q1; omega
  · have HSl := Lib.hid HSf.out
    have HCl := Lib.hid (fun W (q : Kept Nob w W) => clone_rows W (.slice (some ⟨bb, oo + j, none⟩) (vs0.length - j) (rc - j)) (vs0.drop j) R (HSl.out.kept q (fun _ _ f => f)) HOne.out (by have := HDl.out; omega))
    go_enter Tryd.func18, Tryd.ntmps18
    go_upto_region 7 with (first | (go_at_call 26; refine HF.out.mono ?_; rintro e w' ⟨rfl, rfl⟩) | (go_at_call 25; refine HLn.out.mono ?_; rintro e w1 ⟨rfl, n1, rfl⟩) | (go_at_call 20; refine (HDd.out _).mono ?_; rintro e w1 ⟨rfl, rfl⟩))
    go_cut [5, 6] (fun s5 s6 wx => ∃ pb ba ca, s5 = .pointer (some ⟨pb, 0, none⟩) ∧ w.heap.size ≤ pb ∧ s6 = .slice ba (vs0.length - j) ca ∧ Reads wx s6 (vs0.drop j) (fun x => w.heap.size ≤ x ∧ x < wx.heap.size ∧ x ≠ pb) ∧ wx.heap[pb]? = some (.cells #[.int .i64 L.hf, .int .i64 L.base, .int .i64 L.first, .int .i64 L.size] 68 (0, 0)) ∧ Kept Nob w wx)
    case first =>
      go_region_held3 (fun w' => w'.cell? ⟨b, 3, none⟩ = some (.int .i64 L.hf) ∧ w'.cell? ⟨b, 4, none⟩ = some (.int .i64 L.base) ∧ w'.cell? ⟨b, 5, none⟩ = some (.int .i64 L.first) ∧ w'.cell? ⟨b, 6, none⟩ = some (.int .i64 L.size) ∧ w'.cell? ⟨b, 7, none⟩ = some (.slice (some ⟨bb, oo, none⟩) vs0.length rc)) (first | (with_reducible (go_split_ands; exact ⟨‹_›, ‹_›, ‹_›, ‹_›, ‹_›⟩)) | (go_split_ands; with_reducible refine ⟨cell_set4 _ ?_ hne, cell_set4 _ ?_ hne, cell_set4 _ ?_ hne, cell_set4 _ ?_ hne, cell_set4 _ ?_ hne⟩; all_goals (with_reducible assumption)) | (go_keep; done))
        ((first
          | (go_at_call 39; (with_reducible refine (HCl.out _ (Kept.drewN Nob w _)).mono ?_); rintro e w2 ⟨ba, ca, rfl, ho2, hk2, -⟩; rw [HDm.out] at ho2 ⊢; have k2 := (Kept.drewN Nob w _).trans' hk2; have HO2 := Lib.hid (show Own w2 47 (.slice ba (vs0.length - j) ca) (vs0.drop j) (From w.heap.size) from ho2); have q3 := (k2.cell (p := ⟨b, 3, none⟩) hbl (fun f => f)).trans c3; have q4 := (k2.cell (p := ⟨b, 4, none⟩) hbl (fun f => f)).trans c4; have q5 := (k2.cell (p := ⟨b, 5, none⟩) hbl (fun f => f)).trans c5; have q6 := (k2.cell (p := ⟨b, 6, none⟩) hbl (fun f => f)).trans c6; have q7 := (k2.cell (p := ⟨b, 7, none⟩) hbl (fun f => f)).trans c7; have hb2 := cell_lt q3; have HK2 := Lib.hid k2; clear ho2 hk2 k2)
          | (go_at_call 39; (with_reducible refine (HCl.out _ ((Kept.drewN Nob w _).trans' (Kept.alloc Nob _ (.cells #[.int .i64 0, .int .i64 0, .int .i64 0, .int .i64 0] 68)))).mono ?_); rintro e w2 ⟨ba, ca, rfl, ho2, hk2, -⟩; rw [HDm.out] at ho2 ⊢; have k2 := ((Kept.drewN Nob w _).trans' (Kept.alloc Nob _ (.cells #[.int .i64 0, .int .i64 0, .int .i64 0, .int .i64 0] 68))).trans' hk2; have hx2 := (hk2.block w.heap.size (by simp) (fun f => f)).trans (heap_alloc_new (w.drewN _) _); have z0 : w2.cell? ⟨w.heap.size, 0, none⟩ = some (.int .i64 0) := cell_at hx2 0 _ rfl; have z1 : w2.cell? ⟨w.heap.size, 1, none⟩ = some (.int .i64 0) := cell_at hx2 1 _ rfl; have z2 : w2.cell? ⟨w.heap.size, 2, none⟩ = some (.int .i64 0) := cell_at hx2 2 _ rfl; have z3 : w2.cell? ⟨w.heap.size, 3, none⟩ = some (.int .i64 0) := cell_at hx2 3 _ rfl; have f0 : w2.frozen? ⟨w.heap.size, 0, none⟩ = false := frozen_at hx2 0; have f1 : w2.frozen? ⟨w.heap.size, 1, none⟩ = false := frozen_at hx2 1; have f2 : w2.frozen? ⟨w.heap.size, 2, none⟩ = false := frozen_at hx2 2; have f3 : w2.frozen? ⟨w.heap.size, 3, none⟩ = false := frozen_at hx2 3; have HX2 := Lib.hid hx2; clear hx2; have HO2 := Lib.hid (show Own w2 47 (.slice ba (vs0.length - j) ca) (vs0.drop j) (fun x => w.heap.size < x) from ho2.mono (fun x _ hx => by simp [From] at hx; omega)); have q3 := (k2.cell (p := ⟨b, 3, none⟩) hbl (fun f => f)).trans c3; have q4 := (k2.cell (p := ⟨b, 4, none⟩) hbl (fun f => f)).trans c4; have q5 := (k2.cell (p := ⟨b, 5, none⟩) hbl (fun f => f)).trans c5; have q6 := (k2.cell (p := ⟨b, 6, none⟩) hbl (fun f => f)).trans c6; have q7 := (k2.cell (p := ⟨b, 7, none⟩) hbl (fun f => f)).trans c7; have hb2 := cell_lt q3; have HK2 := Lib.hid k2; clear ho2 hk2 k2)))
      · go_wp2_with fail
        go_meet
        exact ⟨w2.heap.size, ba, ca, rfl, HK2.out.size, rfl, ((HO2.out.reads.mono (G := fun x => w.heap.size ≤ x ∧ x < w2.heap.size) fun x hx h => ⟨h, hx⟩).alloc _).mono (fun x _ h => ⟨h.1, by have := h.2; simp; omega, by have := h.2; omega⟩), heap_alloc_new w2 _, HK2.out.trans' (Kept.alloc Nob w2 _)⟩
      · go_wp2_with fail
        go_meet
        exact ⟨w.heap.size, ba, ca, rfl, Nat.le_refl _, rfl, (HO2.out.reads.kept (kept4 w2 w.heap.size _ _ _ _) (fun x hx h => by have h : x = w.heap.size := h; omega)).mono (fun x hx h => ⟨Nat.le_of_lt h, hx, by omega⟩), heap4 w2 w.heap.size _ _ _ _ _ _ _ _ _ HX2.out, HK2.out.from (Nat.le_refl _) ((kept4 w2 w.heap.size _ _ _ _).mono fun x _ h => by have h : x = w.heap.size := h; show _ ≤ _; omega)⟩
    case rest =>
      obtain ⟨pb, ba, ca, rfl, hpb, rfl, hr6, hbx, kx⟩ := hcut
      have p0 : wc.cell? ⟨pb, 0, none⟩ = some (.int .i64 L.hf) := cell_at hbx 0 _ rfl
      have p1 : wc.cell? ⟨pb, 1, none⟩ = some (.int .i64 L.base) := cell_at hbx 1 _ rfl
      have p2 : wc.cell? ⟨pb, 2, none⟩ = some (.int .i64 L.first) := cell_at hbx 2 _ rfl
      have p3 : wc.cell? ⟨pb, 3, none⟩ = some (.int .i64 L.size) := cell_at hbx 3 _ rfl
      have p2f : wc.frozen? ⟨pb, 2, none⟩ = false := frozen_at hbx 2
      have kS := kept1 wc pb 2 (.int .i64 k)
      have k5 : Kept Nob w (wc.setCell ⟨pb, 2, none⟩ (.int .i64 k)) := kx.from (Nat.le_refl _) (kS.mono fun x _ h => by have h : x = pb := h; show _ ≤ _; omega)
      have hOnT := HOn.out.trim (k := k) (by omega) hk2
      have hfT := hOnT.fits
      rw [Wal.markPut_length] at hfT
      have hRw : ∀ x, (R x ∨ (w.heap.size ≤ x ∧ x < wc.heap.size)) → x < wc.heap.size := fun x hx => by
        rcases hx with q | q
        · have := HRu.out x q; have := kx.size; omega
        · exact q.2
      have hRF' : ∀ x, (R x ∨ (w.heap.size ≤ x ∧ x < wc.heap.size)) → ¬ F x := fun x q f => by
        rcases q with q | q
        · exact HRF.out x q f
        · have := HD.out.under x f; omega
      have hTl : Calls Tryd.prog 40 #[.pointer (some ⟨b, 0, none⟩), .agg #[.int .i64 L.hf, .int .i64 L.base, .int .i64 k, .int .i64 L.size], .slice ba (vs0.length - j) ca] (wc.setCell ⟨pb, 2, none⟩ (.int .i64 k)) (RetTold (wc.setCell ⟨pb, 2, none⟩ (.int .i64 k)) b bd d F (L.trim k) (fun x => R x ∨ (w.heap.size ≤ x ∧ x < wc.heap.size))) :=
        log_tell (wc.setCell ⟨pb, 2, none⟩ (.int .i64 k)) b bd L (L.trim k) R _ d F (HLg.out.kept k5 (fun f => f) (fun _ _ f => f)) rfl rfl (HD.out.kept k5 (fun _ _ f => f)) HbF.out HLv.out (by omega) hfT (.slice ba (vs0.length - j) ca) (vs0.drop j)
          ((hr6.kept kS (fun x hx h => hx.2.2 h)).mono fun x _ h => .inr ⟨h.1, h.2.1⟩) (by show ReadRows _ (vs0.drop j) (L.recs.drop (k - L.first)) _; rw [← HJ.out]; exact ((HV0.out.kept k5 (fun _ _ f => f)).mono fun x _ h => .inl h).drop j)
          (fun q => by rcases q with q | q; exact HRb.out q; omega) hRF' (fun x q => by have := hRw x q; have := kS.size; omega)
      have HTl := Lib.hid hTl
      have HK5 := Lib.hid k5
      have HOnT := Lib.hid hOnT
      have HRw := Lib.hid hRw
      have hsz : w.heap.size ≤ wc.heap.size := kx.size
      clear hTl k5 hOnT hRw hRF' kS hfT hr6 hbx kx
      go_wp2_with (first | (go_at_call 40; refine HTl.out.mono ?_; rintro e w6 ⟨rfl, d6, F6, hD6, hg6, hk6, hl6, ho6, hn6, hp6, hL6, hb6⟩) | (go_at_call 29; refine (fault_none _ _ _).mono ?_; rintro e w7 ⟨rfl, rfl⟩))
      go_ret
      have hs5 := HK5.out.size
      refine ⟨rfl, d6, F6, _, hD6, fun x hx => ?_, HK5.out.nob.trans' hk6, ⟨hl6, ho6, by rw [hn6, Wal.markPut_length], by omega, by rw [hn6]; exact HOnT.out, fun i hi => ?_⟩, hL6, fun x hx => ?_, fun x q q6 => ?_, hb6⟩
      · rcases hg6 x hx with q | q
        · exact .inl q
        · exact .inr (by omega)
      · rw [hn6]
        exact Wal.markPut_other (show i ≠ L.frm by omega)
      · rcases hx with q | q
        · exact .inl q
        · exact .inr q.1
      · have h1 := HRw.out x q
        rcases hg6 x q6 with q1 | q1
        · rcases q with q | q
          · exact HRF.out x q q1
          · have := HD.out.under x q1; omega
        · simp at q1; omega
end Go.Proofs.YtcclbaphdblcfaaDoor
