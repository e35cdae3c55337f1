/- The log: add. -/
import Derived.Test.YtcclbaphdblcfaaDoorPgWal15
import Derived.Deep.DeepCutAuto
namespace Go.Proofs.YtcclbaphdblcfaaDoor
open Go.RowKit

set_option maxRecDepth 100000 in
set_option maxHeartbeats 4000000 in
theorem log_add (w : World) (b bd : Nat) (L : Wal.Lg) (R : Nat → Prop) (d : Dsk) (F : Nat → Prop) (h : LogAt w b bd L R) (hOn : Wal.On d.now L) (hD : DiskAt w bd d F) (hbF : ¬ F b) (hl : Wal.Live d) (hops : d.ops ≤ 1000000000000) (hRF : Disj R F)
    (v : Value) (vs : List Value) (rs : List (List Value)) (G : Nat → Prop) (hv : Reads w v vs G) (hr : ReadRows w vs rs G) (hrs : ∀ r ∈ rs, Wal.Rec r) (hn : rs.length ≤ 40) (hsm : L.first + L.recs.length + rs.length ≤ 1000000000) (hGb : ¬ G b) (hGF : Disj G F) (hGu : Under G w.heap.size) :
    Calls Tryd.prog 37 #[.pointer (some ⟨b, 0, none⟩), v] w fun e w' =>
      (L.may rs = true → RetLog w b bd d F (Por R G) L (L.grow rs) e w') ∧ (L.may rs = false → e = .returned (.iface 63 (.int .i64 8)) ∧ Kept Nob w w') := by
  have hfit := hOn.fits
  have hnl : d.now.length = d.good.length := hD.wf.len
  have hmost := hD.wf.most
  have hroom := hfit.room
  have h1 := hfit.hf
  have h2 := hfit.half
  have h3 := hfit.base
  have h4 := hfit.size
  have h5 := hfit.small
  have hrec := hfit.recs
  have hrl : L.recs.length ≤ 800000 := by
    obtain ⟨dead, -, -, -, e⟩ := hOn.body
    have := Wal.weight_two (dead ++ L.recs)
    rw [List.length_append] at this
    omega
  have hhb : L.half ≤ 5000 := by omega
  have hsb : L.size ≤ 600000 := by omega
  have hw40 : Wal.weight rs ≤ 40 * 1202 := by
    have h := Wal.weight_le 1200 rs fun r hr => (hrs r hr).1
    have := Nat.mul_le_mul_right 1202 hn
    omega
  have hHd := h.head
  have HLg := Lib.hid h
  have hRu := h.under
  obtain ⟨rv, vs0, hb, hRb, hrv, hvs0, -⟩ := h
  have hv0l := hvs0.1
  have hvl := hr.1
  have hbl : b < w.heap.size := (Array.getElem?_eq_some_iff.1 hb).1
  have c7 : w.cell? ⟨b, 7, none⟩ = some rv := cell_at hb 7 _ rfl
  obtain ⟨va, vc, rfl, -⟩ := hv.shape
  obtain ⟨ra, rc, rfl, -⟩ := hrv.shape
  have HB := Lib.hid hb
  have HD := Lib.hid hD
  have HOn := Lib.hid hOn
  have HbF := Lib.hid hbF
  have HLv := Lib.hid hl
  have HRF := Lib.hid hRF
  have HV := Lib.hid hv
  have HR := Lib.hid hr
  have HRv := Lib.hid hrv
  have HV0 := Lib.hid hvs0
  have HRs := Lib.hid hrs
  have HRec := Lib.hid hrec
  have HGb := Lib.hid hGb
  have HRb := Lib.hid hRb
  have HGF := Lib.hid hGF
  have HGu := Lib.hid hGu
  have HRu := Lib.hid hRu
  have HHd := Lib.hid hHd
  have HNL := Lib.hid hnl
  have HV0l := Lib.hid hv0l
  have HVl := Lib.hid hvl
  have ka := Kept.alloc Nob w (.cells #[.slice ra vs0.length rc, .slice va vs.length vc] 34)
  have HKA := Lib.hid ka
  have hPu : ∀ x, Por R G x → x < w.heap.size := fun x hx => hx.elim (hRu x) (hGu x)
  have HPu := Lib.hid hPu
  have HCt := Lib.hid (concat_two (w.alloc (.cells #[.slice ra vs0.length rc, .slice va vs.length vc] 34)) w.heap.size _ _ vs0 vs (Por R G) (by simp) (by simp) ((hrv.alloc _).mono fun _ _ q => .inl q) ((hv.alloc _).mono fun _ _ q => .inr q) hvs0.one hr.one (by omega) (fun x hx => by have := hPu x hx; simp; omega))
  clear hb hD hOn hbF hl hRF hv hr hrv hvs0 hrs hrec hGb hRb hGF hGu hRu hHd hnl hfit ka hPu hv0l hvl
  go_enter Tryd.func37, Tryd.ntmps37
  go_wp2_with fail
  refine HCt.out.mono ?_
  rintro e w1 ⟨ba, ca, rfl, ho1, hk1⟩
  have k1 := HKA.out.trans' hk1
  have hbw1 := (k1.block b hbl (fun f => f)).trans HB.out
  have c3 : w1.cell? ⟨b, 3, none⟩ = some (.int .i64 L.hf) := cell_at hbw1 3 _ rfl
  have c4 : w1.cell? ⟨b, 4, none⟩ = some (.int .i64 L.base) := cell_at hbw1 4 _ rfl
  have c5 : w1.cell? ⟨b, 5, none⟩ = some (.int .i64 L.first) := cell_at hbw1 5 _ rfl
  have c6 : w1.cell? ⟨b, 6, none⟩ = some (.int .i64 L.size) := cell_at hbw1 6 _ rfl
  have hb1 : b < w1.heap.size := cell_lt c3
  have hne : b ≠ w1.heap.size := Nat.ne_of_lt hb1
  have HPk := Lib.hid (fun W (q : Kept Nob w1 W) => packed_any W _ vs rs (fun x => x < w1.heap.size) ((HV.out.kept (k1.then q) (fun _ _ f => f)).mono fun x hx hg => by have := HGu.out x hg; have := k1.size; omega) ((HR.out.kept (k1.then q) (fun _ _ f => f)).mono fun x hx hg => by have := HGu.out x hg; have := k1.size; omega) HRs.out (by omega) (fun x hx => by have := q.size; omega))
  have hsl1 : (vs0 ++ vs).length = vs0.length + vs.length := List.length_append
  have HAl := Lib.hid (show Reads w1 (.slice ba (vs0.length + vs.length) ca) (vs0 ++ vs) (fun x => w.heap.size ≤ x ∧ x < w1.heap.size) from by
    have h := ho1.reads
    rw [hsl1] at h
    exact h.mono fun x hx hf => ⟨by simp [From] at hf; omega, hx⟩)
  clear hsl1
  have HK1 := Lib.hid k1
  clear ho1 hk1 k1 hbw1 c7 HCt
  have hpl : (Wal.pack rs).length = Wal.weight rs := Wal.pack_length rs
  have HPl := Lib.hid hpl
  have hpl5 : (Wal.pack rs).length ≤ 50000 := by omega
  clear hpl
  go_upto_region 2 with fail
  go_cut [6, 7, 8] (fun s6 s7 s8 wx => s7 = .int .i64 L.size ∧ ∃ pb bp cp, s6 = .pointer (some ⟨pb, 0, none⟩) ∧ w1.heap.size ≤ pb ∧ s8 = .slice bp (Wal.pack rs).length cp ∧ Reads wx s8 (Wal.pack rs) (From w1.heap.size) ∧ wx.heap[pb]? = some (.cells #[.int .i64 L.hf, .int .i64 L.base, .int .i64 L.first, .int .i64 L.size] 68 (0, 0)) ∧ Kept Nob w1 wx)
  case first =>
    go_region_held3 (fun w' => w'.cell? ⟨b, 3, none⟩ = some (.int .i64 L.hf) ∧ w'.cell? ⟨b, 4, none⟩ = some (.int .i64 L.base) ∧ w'.cell? ⟨b, 5, none⟩ = some (.int .i64 L.first) ∧ w'.cell? ⟨b, 6, none⟩ = some (.int .i64 L.size)) (first | (with_reducible (go_split_ands; exact ⟨‹_›, ‹_›, ‹_›, ‹_›⟩)) | (go_split_ands; with_reducible refine ⟨cell_set4 _ ?_ hne, cell_set4 _ ?_ hne, cell_set4 _ ?_ hne, cell_set4 _ ?_ hne⟩; all_goals (with_reducible assumption)) | (go_keep; done))
      ((first
        | (go_at_call 51; (with_reducible refine (HPk.out _ (Kept.drew Nob w1)).mono ?_); rintro e w2 ⟨bp, cp, rfl, ho2, hk2⟩; have k2 := (Kept.drew Nob w1).trans' hk2; have HR2 := Lib.hid (show Reads w2 (.slice bp (Wal.pack rs).length cp) (Wal.pack rs) (From w1.heap.size) from ho2.reads); have q3 := (k2.cell (p := ⟨b, 3, none⟩) hb1 (fun f => f)).trans c3; have q4 := (k2.cell (p := ⟨b, 4, none⟩) hb1 (fun f => f)).trans c4; have q5 := (k2.cell (p := ⟨b, 5, none⟩) hb1 (fun f => f)).trans c5; have q6 := (k2.cell (p := ⟨b, 6, none⟩) hb1 (fun f => f)).trans c6; have hb2 := cell_lt q3; have HO2 := Lib.hid ho2; have HK2 := Lib.hid k2; clear ho2 hk2 k2)
        | (go_at_call 51; (with_reducible refine (HPk.out _ ((Kept.alloc Nob w1 (.cells #[.int .i64 0, .int .i64 0, .int .i64 0, .int .i64 0] 68)).trans' (Kept.drew Nob _))).mono ?_); rintro e w2 ⟨bp, cp, rfl, ho2, hk2⟩; have k2 := ((Kept.alloc Nob w1 (.cells #[.int .i64 0, .int .i64 0, .int .i64 0, .int .i64 0] 68)).trans' (Kept.drew Nob _)).trans' hk2; have HX2 := Lib.hid ((hk2.block w1.heap.size (by simp) (fun f => f)).trans (heap_alloc_new w1 _)); have HR2 := Lib.hid (show Reads w2 (.slice bp (Wal.pack rs).length cp) (Wal.pack rs) (fun x => w1.heap.size < x) from ho2.reads.mono (fun x _ hx => by simp [From] at hx; omega)); have z0 : w2.cell? ⟨w1.heap.size, 0, none⟩ = some (.int .i64 0) := (hk2.cell (p := ⟨w1.heap.size, 0, none⟩) (by simp) (fun f => f)).trans (by simp); have z1 : w2.cell? ⟨w1.heap.size, 1, none⟩ = some (.int .i64 0) := (hk2.cell (p := ⟨w1.heap.size, 1, none⟩) (by simp) (fun f => f)).trans (by simp); have z2 : w2.cell? ⟨w1.heap.size, 2, none⟩ = some (.int .i64 0) := (hk2.cell (p := ⟨w1.heap.size, 2, none⟩) (by simp) (fun f => f)).trans (by simp); have z3 : w2.cell? ⟨w1.heap.size, 3, none⟩ = some (.int .i64 0) := (hk2.cell (p := ⟨w1.heap.size, 3, none⟩) (by simp) (fun f => f)).trans (by simp); have f0 : w2.frozen? ⟨w1.heap.size, 0, none⟩ = false := (hk2.frozen (p := ⟨w1.heap.size, 0, none⟩) (by simp) (fun f => f)).trans (by simp); have f1 : w2.frozen? ⟨w1.heap.size, 1, none⟩ = false := (hk2.frozen (p := ⟨w1.heap.size, 1, none⟩) (by simp) (fun f => f)).trans (by simp); have f2 : w2.frozen? ⟨w1.heap.size, 2, none⟩ = false := (hk2.frozen (p := ⟨w1.heap.size, 2, none⟩) (by simp) (fun f => f)).trans (by simp); have f3 : w2.frozen? ⟨w1.heap.size, 3, none⟩ = false := (hk2.frozen (p := ⟨w1.heap.size, 3, none⟩) (by simp) (fun f => f)).trans (by simp); have q3 := (k2.cell (p := ⟨b, 3, none⟩) hb1 (fun f => f)).trans c3; have q4 := (k2.cell (p := ⟨b, 4, none⟩) hb1 (fun f => f)).trans c4; have q5 := (k2.cell (p := ⟨b, 5, none⟩) hb1 (fun f => f)).trans c5; have q6 := (k2.cell (p := ⟨b, 6, none⟩) hb1 (fun f => f)).trans c6; have hb2 := cell_lt q3; have HO2 := Lib.hid ho2; have HK2 := Lib.hid k2; clear ho2 hk2 k2)
        | (go_at_call 51; (with_reducible refine (HPk.out _ ((Kept.alloc Nob w1 (.cells #[.int .i64 L.hf, .int .i64 L.base, .int .i64 L.first, .int .i64 L.size] 68)).trans' (Kept.drew Nob _))).mono ?_); rintro e w2 ⟨bp, cp, rfl, ho2, hk2⟩; have k2 := ((Kept.alloc Nob w1 (.cells #[.int .i64 L.hf, .int .i64 L.base, .int .i64 L.first, .int .i64 L.size] 68)).trans' (Kept.drew Nob _)).trans' hk2; have HX2 := Lib.hid ((hk2.block w1.heap.size (by simp) (fun f => f)).trans (heap_alloc_new w1 _)); have HR2 := Lib.hid (show Reads w2 (.slice bp (Wal.pack rs).length cp) (Wal.pack rs) (fun x => w1.heap.size < x) from ho2.reads.mono (fun x _ hx => by simp [From] at hx; omega)); have z0 : w2.cell? ⟨w1.heap.size, 0, none⟩ = some (.int .i64 L.hf) := (hk2.cell (p := ⟨w1.heap.size, 0, none⟩) (by simp) (fun f => f)).trans (by simp); have z1 : w2.cell? ⟨w1.heap.size, 1, none⟩ = some (.int .i64 L.base) := (hk2.cell (p := ⟨w1.heap.size, 1, none⟩) (by simp) (fun f => f)).trans (by simp); have z2 : w2.cell? ⟨w1.heap.size, 2, none⟩ = some (.int .i64 L.first) := (hk2.cell (p := ⟨w1.heap.size, 2, none⟩) (by simp) (fun f => f)).trans (by simp); have z3 : w2.cell? ⟨w1.heap.size, 3, none⟩ = some (.int .i64 L.size) := (hk2.cell (p := ⟨w1.heap.size, 3, none⟩) (by simp) (fun f => f)).trans (by simp); have f0 : w2.frozen? ⟨w1.heap.size, 0, none⟩ = false := (hk2.frozen (p := ⟨w1.heap.size, 0, none⟩) (by simp) (fun f => f)).trans (by simp); have f1 : w2.frozen? ⟨w1.heap.size, 1, none⟩ = false := (hk2.frozen (p := ⟨w1.heap.size, 1, none⟩) (by simp) (fun f => f)).trans (by simp); have f2 : w2.frozen? ⟨w1.heap.size, 2, none⟩ = false := (hk2.frozen (p := ⟨w1.heap.size, 2, none⟩) (by simp) (fun f => f)).trans (by simp); have f3 : w2.frozen? ⟨w1.heap.size, 3, none⟩ = false := (hk2.frozen (p := ⟨w1.heap.size, 3, none⟩) (by simp) (fun f => f)).trans (by simp); have q3 := (k2.cell (p := ⟨b, 3, none⟩) hb1 (fun f => f)).trans c3; have q4 := (k2.cell (p := ⟨b, 4, none⟩) hb1 (fun f => f)).trans c4; have q5 := (k2.cell (p := ⟨b, 5, none⟩) hb1 (fun f => f)).trans c5; have q6 := (k2.cell (p := ⟨b, 6, none⟩) hb1 (fun f => f)).trans c6; have hb2 := cell_lt q3; have HO2 := Lib.hid ho2; have HK2 := Lib.hid k2; clear ho2 hk2 k2)))
    · go_wp2_with fail
      go_meet
      exact ⟨rfl, w2.heap.size, bp, cp, rfl, HK2.out.size, rfl, HR2.out.alloc _, heap_alloc_new w2 _, HK2.out.trans' (Kept.alloc Nob w2 _)⟩
    · go_wp2_with fail
      go_meet
      exact ⟨rfl, w1.heap.size, bp, cp, rfl, Nat.le_refl _, rfl, (HR2.out.kept (kept4 w2 w1.heap.size _ _ _ _) (fun x hx h => by have h : x = w1.heap.size := h; omega)).mono (fun x _ hx => Nat.le_of_lt hx), heap4 w2 w1.heap.size _ _ _ _ _ _ _ _ _ HX2.out, HK2.out.from (Nat.le_refl _) ((kept4 w2 w1.heap.size _ _ _ _).mono fun x _ h => by have h : x = w1.heap.size := h; show _ ≤ _; omega)⟩
  case rest =>
    revert wc
    intro wa hcut
    obtain ⟨rfl, pb, bp, cp, rfl, hpb, rfl, hr8, hbx, kx⟩ := hcut
    have HK0 := Lib.hid (HK1.out.then kx)
    have c2 := (HHd.out.kept HK0.out (fun f => f)).c2
    have p0 : wa.cell? ⟨pb, 0, none⟩ = some (.int .i64 L.hf) := cell_at hbx 0 _ rfl
    have p1 : wa.cell? ⟨pb, 1, none⟩ = some (.int .i64 L.base) := cell_at hbx 1 _ rfl
    have p2 : wa.cell? ⟨pb, 2, none⟩ = some (.int .i64 L.first) := cell_at hbx 2 _ rfl
    have p3 : wa.cell? ⟨pb, 3, none⟩ = some (.int .i64 L.size) := cell_at hbx 3 _ rfl
    have p3f : wa.frozen? ⟨pb, 3, none⟩ = false := frozen_at hbx 3
    have HPBW := Lib.hid hpb
    have HR8 := Lib.hid hr8
    have HBX := Lib.hid hbx
    have HKX := Lib.hid kx
    clear hpb hr8 hbx kx HPk c3 c4 c5 c6 hb1 hne
    by_cases hbh : L.behind rs = true
    · have hfits : L.size + Wal.weight rs ≤ L.half * 64 := by simpa [Wal.Lg.behind] using hbh
      have hmay : L.may rs = true := by simp [Wal.Lg.may, hbh]
      have hwr0 := log_write_at wa b bd L.frm L.half d F (HHd.out.kept HK0.out (fun f => f)) (HD.out.kept HK0.out (fun _ _ f => f)) HbF.out HLv.out hops (L.hf) L.size h1 _ (Wal.pack rs) _ HR8.out (Wal.pack_bytes rs fun r hr => (HRs.out r hr).2) (by have := HNL.out; omega) (by have := HPl.out; omega)
      have HWr := Lib.hid hwr0
      have HPb := Lib.hid (cell_lt p0)
      clear hwr0
      have t1 : ¬ ((L.half : Int) * 64 < (L.size : Int) + ((Wal.pack rs).length : Int)) := by have := HPl.out; omega
      go_wp2_with fail
      refine HWr.out.mono ?_
      rintro e w5 ⟨rfl, d5, F5, hD5, hg5, hk5, hw5⟩
      have hpF : ¬ F pb := fun q => by have := HD.out.under pb q; have := HK1.out.size; have := HPBW.out; omega
      have p0' : w5.cell? ⟨pb, 0, none⟩ = some (.int .i64 (L.hf)) := (hk5.cell (cell_lt p0) hpF).trans p0
      have p1' : w5.cell? ⟨pb, 1, none⟩ = some (.int .i64 (L.base)) := (hk5.cell (cell_lt p1) hpF).trans p1
      have p2' : w5.cell? ⟨pb, 2, none⟩ = some (.int .i64 (L.first)) := (hk5.cell (cell_lt p2) hpF).trans p2
      have p3' : w5.cell? ⟨pb, 3, none⟩ = some (.int .i64 (L.size)) := (hk5.cell (cell_lt p3) hpF).trans p3
      have g3' : w5.frozen? ⟨pb, 3, none⟩ = false := (hk5.frozen (p := ⟨pb, 3, none⟩) (cell_lt p3) hpF).trans p3f
      have hwy : AddWay L rs (L.hf) L.size (Wal.pack rs) := .inl ⟨hbh, rfl, rfl, rfl⟩
      obtain ⟨e1, e2, e3⟩ := hwy.place
      have kS := kept1 w5 pb 3 (.int .i64 ((L.size : Int) + ((Wal.pack rs).length : Int)))
      have kw5 : Kept F w w5 := HK0.out.nob.trans' hk5
      have ks5 : Kept F w (w5.setCell ⟨pb, 3, none⟩ (.int .i64 ((L.size : Int) + ((Wal.pack rs).length : Int)))) := kw5.from (Nat.le_refl _) (kS.mono fun x _ h => by have h : x = pb := h; have := HK1.out.size; have := HPBW.out; show _ ≤ _; omega)
      have hF5p : ∀ j, F5 j → ¬ Just pb j := fun j hj h => by
        have h : j = pb := h
        subst h
        rcases hg5 _ hj with q | q
        · exact hpF q
        · have := HPb.out; omega
      have hTl := add_tail w (w5.setCell ⟨pb, 3, none⟩ (.int .i64 ((L.size : Int) + ((Wal.pack rs).length : Int)))) b bd (wa).heap.size (L.hf) L.size (Wal.pack rs) L R G d d5 F F5 hbl HLg.out HbF.out HRF.out HGb.out HGF.out HGu.out HD.out.under HOn.out rs HRs.out hsm hmay hwy h1 hops vs0 vs HV0.out HR.out
        (hD5.kept kS hF5p) hg5 HK0.out.size ks5 hw5 (.slice ba (vs0.length + vs.length) ca) (((((HAl.out.kept HKX.out.nob (fun _ _ f => f)).kept hk5 (fun x hx q => by have := HD.out.under x q; omega)).kept kS (fun x hx h => by have h : x = pb := h; have := HPBW.out; omega))).mono fun x _ hx => ⟨hx.1, by have := HKX.out.size; omega⟩) (by have := hk5.size; simpa using this)
      rw [e1, e2, e3, Wal.grow_first] at hTl
      rw [if_pos hbh] at hTl
      rw [show ((L.size + (Wal.pack rs).length : Nat) : Int) = (L.size : Int) + ((Wal.pack rs).length : Int) from by push_cast; rfl] at hTl
      have HTl := Lib.hid hTl
      clear HWr hD5 hg5 hk5 hw5 hpF hwy e1 e2 e3 kS kw5 ks5 hF5p hTl p0 p1 p2 p3 p3f
      go_wp2_with fail
      refine HTl.out.mono ?_
      rintro e w6 ⟨rfl, hfin⟩
      go_wp2_with fail
      go_ret
      exact ⟨fun _ => ⟨rfl, hfin⟩, fun q => by rw [hmay] at q; cases q⟩
    · have hbf : L.behind rs = false := by simpa using hbh
      have hnf : L.half * 64 < L.size + Wal.weight rs := by
        have h := hbf
        simp only [Wal.Lg.behind, decide_eq_false_iff_not] at h
        omega
      clear hbh
      have t0 : (L.half : Int) * 64 < (L.size : Int) + ((Wal.pack rs).length : Int) := by have := HPl.out; omega
      have HAR : Hid (∀ r ∈ L.recs ++ rs, Wal.Rec r) := by
        refine Lib.hid fun r hr => ?_
        rcases List.mem_append.1 hr with h | h
        · exact HRec.out r h
        · exact HRs.out r h
      have hal : (L.recs ++ rs).length ≤ 800040 := by rw [List.length_append]; omega
      have hpa : (Wal.pack (L.recs ++ rs)).length = Wal.weight (L.recs ++ rs) := Wal.pack_length _
      have hpb1 : (Wal.pack (L.recs ++ rs)).length ≤ 1000000000 := by
        have h := Wal.weight_le 1200 (L.recs ++ rs) fun r hr => (HAR.out r hr).1
        have h2 := Nat.mul_le_mul_right 1202 hal
        omega
      have HPa := Lib.hid hpa
      obtain ⟨q, hq⟩ : ∃ q, q = 1 - L.hf := ⟨_, rfl⟩
      have hf1 : q ≤ 1 := by omega
      have HQ := Lib.hid hq
      have hbw : b < wa.heap.size := cell_lt c2
      have HPk := Lib.hid (packed_any wa.drew (.slice ba (vs0.length + vs.length) ca) (vs0 ++ vs) (L.recs ++ rs) (fun x => x < wa.heap.size) (((HAl.out.kept HKX.out (fun _ _ f => f)).drew).mono fun x hx _ => hx)
        ((((HV0.out.kept HK0.out (fun _ _ f => f)).mono fun x hx _ => hx).append ((HR.out.kept HK0.out (fun _ _ f => f)).mono fun x hx _ => hx)).kept (Kept.drew Nob wa) (fun _ _ f => f)) HAR.out (by omega) (fun x hx => hx))
      have w1f : IntKind.i64.wrap (1 - (L.hf : Int)) = (q : Int) := by rw [IntWalk.i64_in _ (by omega)]; omega
      clear hpa hal hq
      go_upto_region 4 with fail
      go_cut [7, 8] (fun s7 s8 wx => s7 = .int .i64 0 ∧ ∃ bq cq, s8 = .slice bq (Wal.pack (L.recs ++ rs)).length cq ∧ Reads wx s8 (Wal.pack (L.recs ++ rs)) (From wa.heap.size) ∧ wx.heap[pb]? = some (.cells #[.int .i64 q, .int .i64 L.first, .int .i64 L.first, .int .i64 0] 68 (0, 0)) ∧ Kept (Just pb) wa wx)
      case first =>
        go_region_with (go_at_call 51; refine HPk.out.mono ?_; rintro e w2 ⟨bq, cq, rfl, ho2, hk2⟩; have r0 : w2.cell? ⟨pb, 0, none⟩ = some (.int .i64 L.hf) := (hk2.cell (cell_lt p0) (fun f => f)).trans p0; have r1 : w2.cell? ⟨pb, 1, none⟩ = some (.int .i64 L.base) := (hk2.cell (cell_lt p1) (fun f => f)).trans p1; have r2 : w2.cell? ⟨pb, 2, none⟩ = some (.int .i64 L.first) := (hk2.cell (cell_lt p2) (fun f => f)).trans p2; have r3 : w2.cell? ⟨pb, 3, none⟩ = some (.int .i64 L.size) := (hk2.cell (cell_lt p3) (fun f => f)).trans p3; have g0 : w2.frozen? ⟨pb, 0, none⟩ = false := (hk2.frozen (p := ⟨pb, 0, none⟩) (cell_lt p0) (fun f => f)).trans (frozen_at HBX.out 0); have g1 : w2.frozen? ⟨pb, 1, none⟩ = false := (hk2.frozen (p := ⟨pb, 1, none⟩) (cell_lt p1) (fun f => f)).trans (frozen_at HBX.out 1); have g2 : w2.frozen? ⟨pb, 2, none⟩ = false := (hk2.frozen (p := ⟨pb, 2, none⟩) (cell_lt p2) (fun f => f)).trans (frozen_at HBX.out 2); have g3 : w2.frozen? ⟨pb, 3, none⟩ = false := (hk2.frozen (p := ⟨pb, 3, none⟩) (cell_lt p3) (fun f => f)).trans (frozen_at HBX.out 3); have HR9 := Lib.hid ho2.reads; have HX9 := Lib.hid ((hk2.block pb (cell_lt p0) (fun f => f)).trans HBX.out); have HK9 := Lib.hid ((Kept.drew Nob wa).trans' hk2); have HS9 := Lib.hid (show pb < w2.heap.size from Nat.lt_of_lt_of_le (cell_lt p0) hk2.size); clear ho2 hk2)
        all_goals
          go_wp2_with fail
          go_meet
          exact ⟨rfl, bq, cq, rfl, HR9.out.kept (kept4 w2 pb _ _ _ _) (fun x hx h => by have h : x = pb := h; have h2 := cell_lt p0; simp [From] at hx h2; omega), heap4 w2 pb _ _ _ _ _ _ _ _ _ HX9.out, HK9.out.nob.trans' (kept4 w2 pb _ _ _ _)⟩
      case rest =>
        obtain ⟨rfl, bq, cq, rfl, hr9, hbx, kx⟩ := hcut
        have HK2 : Hid (Kept Nob w wc) := Lib.hid (HK0.out.from (Nat.le_refl _) (kx.mono fun x _ h => by have h : x = pb := h; have := HK1.out.size; have := HPBW.out; show _ ≤ _; omega))
        have HKY : Hid (Kept (From w1.heap.size) w1 wc) := Lib.hid (HKX.out.nob.trans' (kx.mono fun x _ h => by have h : x = pb := h; have := HPBW.out; show _ ≤ _; omega))
        have c2' := (HHd.out.kept HK2.out (fun f => f)).c2
        clear p0 p1 p2 p3 p3f
        have p0 : wc.cell? ⟨pb, 0, none⟩ = some (.int .i64 q) := cell_at hbx 0 _ rfl
        have p1 : wc.cell? ⟨pb, 1, none⟩ = some (.int .i64 L.first) := cell_at hbx 1 _ rfl
        have p2 : wc.cell? ⟨pb, 2, none⟩ = some (.int .i64 L.first) := cell_at hbx 2 _ rfl
        have p3 : wc.cell? ⟨pb, 3, none⟩ = some (.int .i64 0) := cell_at hbx 3 _ rfl
        have p3f : wc.frozen? ⟨pb, 3, none⟩ = false := frozen_at hbx 3
        have HR9 := Lib.hid hr9
        clear hr9 hbx kx HPk w1f t0 c2
        by_cases hmay : L.may rs = true
        · have hfits : Wal.weight (L.recs ++ rs) ≤ L.half * 64 := by
            have h := hmay
            simp only [Wal.Lg.may, hbf, Bool.false_or, decide_eq_true_eq] at h
            exact h
          have hwr0 := log_write_at wc b bd L.frm L.half d F (HHd.out.kept HK2.out (fun f => f)) (HD.out.kept HK2.out (fun _ _ f => f)) HbF.out HLv.out hops q 0 hf1 _ (Wal.pack (L.recs ++ rs)) _ HR9.out (Wal.pack_bytes (L.recs ++ rs) fun r hr => (HAR.out r hr).2) (by have := HNL.out; omega) (by have := HPa.out; omega)
          rw [show ((0 : Nat) : Int) = 0 from rfl] at hwr0
          have HWr := Lib.hid hwr0
          have HPb := Lib.hid (cell_lt p0)
          clear hwr0
          have t1 : ¬ ((L.half : Int) * 64 < ((Wal.pack (L.recs ++ rs)).length : Int)) := by have := HPa.out; omega
          go_wp2_with fail
          refine HWr.out.mono ?_
          rintro e w5 ⟨rfl, d5, F5, hD5, hg5, hk5, hw5⟩
          have hpF : ¬ F pb := fun q => by have := HD.out.under pb q; have := HK1.out.size; have := HPBW.out; omega
          have p0' : w5.cell? ⟨pb, 0, none⟩ = some (.int .i64 (q)) := (hk5.cell (cell_lt p0) hpF).trans p0
          have p1' : w5.cell? ⟨pb, 1, none⟩ = some (.int .i64 (L.first)) := (hk5.cell (cell_lt p1) hpF).trans p1
          have p2' : w5.cell? ⟨pb, 2, none⟩ = some (.int .i64 (L.first)) := (hk5.cell (cell_lt p2) hpF).trans p2
          have p3' : w5.cell? ⟨pb, 3, none⟩ = some (.int .i64 (0)) := (hk5.cell (cell_lt p3) hpF).trans p3
          have g3' : w5.frozen? ⟨pb, 3, none⟩ = false := (hk5.frozen (p := ⟨pb, 3, none⟩) (cell_lt p3) hpF).trans p3f
          have hwy : AddWay L rs q 0 (Wal.pack (L.recs ++ rs)) := .inr ⟨hbf, HQ.out, rfl, rfl⟩
          obtain ⟨e1, e2, e3⟩ := hwy.place
          have kS := kept1 w5 pb 3 (.int .i64 (((Wal.pack (L.recs ++ rs)).length : Int)))
          have kw5 : Kept F w w5 := HK2.out.nob.trans' hk5
          have ks5 : Kept F w (w5.setCell ⟨pb, 3, none⟩ (.int .i64 (((Wal.pack (L.recs ++ rs)).length : Int)))) := kw5.from (Nat.le_refl _) (kS.mono fun x _ h => by have h : x = pb := h; have := HK1.out.size; have := HPBW.out; show _ ≤ _; omega)
          have hF5p : ∀ j, F5 j → ¬ Just pb j := fun j hj h => by
            have h : j = pb := h
            subst h
            rcases hg5 _ hj with q | q
            · exact hpF q
            · have := HPb.out; omega
          have hTl := add_tail w (w5.setCell ⟨pb, 3, none⟩ (.int .i64 (((Wal.pack (L.recs ++ rs)).length : Int)))) b bd (wc).heap.size q 0 (Wal.pack (L.recs ++ rs)) L R G d d5 F F5 hbl HLg.out HbF.out HRF.out HGb.out HGF.out HGu.out HD.out.under HOn.out rs HRs.out hsm hmay hwy hf1 hops vs0 vs HV0.out HR.out
            (hD5.kept kS hF5p) hg5 HK2.out.size ks5 hw5 (.slice ba (vs0.length + vs.length) ca) (((((HAl.out.kept HKY.out (fun x hx h => by have h : w1.heap.size ≤ x := h; omega)).kept hk5 (fun x hx q => by have := HD.out.under x q; omega)).kept kS (fun x hx h => by have h : x = pb := h; have := HPBW.out; omega))).mono fun x _ hx => ⟨hx.1, by have := HKY.out.size; omega⟩) (by have := hk5.size; simpa using this)
          rw [e1, e2, e3, Wal.grow_first] at hTl
          rw [if_neg (by rw [hbf]; exact Bool.noConfusion), Nat.zero_add] at hTl
          have HTl := Lib.hid hTl
          clear HWr hD5 hg5 hk5 hw5 hpF hwy e1 e2 e3 kS kw5 ks5 hF5p hTl p0 p1 p2 p3 p3f
          go_wp2_with fail
          refine HTl.out.mono ?_
          rintro e w6 ⟨rfl, hfin⟩
          go_wp2_with fail
          go_ret
          exact ⟨fun _ => ⟨rfl, hfin⟩, fun q => by rw [hmay] at q; cases q⟩
        · have hnm : L.half * 64 < Wal.weight (L.recs ++ rs) := by
            have h : L.may rs = false := by simpa using hmay
            simp only [Wal.Lg.may, hbf, Bool.false_or, decide_eq_false_iff_not] at h
            omega
          have t1 : (L.half : Int) * 64 < ((Wal.pack (L.recs ++ rs)).length : Int) := by have := HPa.out; omega
          go_wp2_with fail
          go_ret
          exact ⟨fun q => absurd q hmay, fun _ => ⟨rfl, HK2.out⟩⟩
end Go.Proofs.YtcclbaphdblcfaaDoor
