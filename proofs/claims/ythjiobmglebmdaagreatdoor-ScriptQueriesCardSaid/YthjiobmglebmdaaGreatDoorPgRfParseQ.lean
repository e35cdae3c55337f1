/- The document's own queries, read. Printed by gen_rparseq.py. -/
import Derived.Test.YthjiobmglebmdaaGreatDoorPgRfQuery
import Derived.Test.YthjiobmglebmdaaGreatDoorPgRfParse
import Derived.Test.YthjiobmglebmdaaGreatDoorPgRfQM
namespace Go.Proofs.YthjiobmglebmdaaGreatDoor
open Go.RowKit
open Go.Proofs.YthjiobmglebmdaaGreatDoor.Geo Go.Proofs.YthjiobmglebmdaaGreatDoor.Txt

/-- how the document reads a text as a query -/
def RParseQ (w : World) (s : List UInt8) (e : Ending) (w' : World) : Prop :=
  (∃ q u, QrOk q ∧ qrText q = s ∧ e = .returned (.tuple #[qrVal (qrOf q.kind (qrPts q)) u, .int .i64 0]) ∧ PtsAt w' u (qrOf q.kind (qrPts q)).ring (From w.heap.size) ∧ Kept Nob w w') ∨
  ((∀ q, QrOk q → qrText q ≠ s) ∧ e = .returned (.tuple #[.agg #[.int .i64 0, .int .i64 0, .int .i64 0, .int .i64 0, .int .i64 0, .slice none 0 0], .int .i64 10]) ∧ Kept Nob w w')
theorem qr_many {s : List UInt8} (h : 70 < (sp s).length) : ∀ q, QrOk q → qrText q ≠ s := fun q hq e => by
  rw [qr_words hq e] at h
  have := (qrPts_len hq).2
  simp at h
  omega
theorem rq_yes {w w' : World} {s : List UInt8} {e : Ending} {D : Qr} {u : Value} (ho : QrOk D) (ht : qrText D = s) (hd : D = qrOf D.kind (qrPts D)) (he : e = .returned (.tuple #[qrVal D u, .int .i64 0])) (hp : PtsAt w' u D.ring (From w.heap.size)) (K : Kept Nob w w') : RParseQ w s e w' :=
  .inl ⟨D, u, ho, ht, by rw [← hd]; exact he, by rw [← hd]; exact hp, K⟩
/-- the two queries behind the call of Query -/
theorem rq_fin {w w1 w2 W w3 : World} {T : TypeId} {a0 a1 a2 a3 a4 a5 : Value} {v : Value} {l : List Pt} (hg : w.heap.size < w1.heap.size) (h2 : w2.heap[w.heap.size]? = some (.cells #[.int .i64 0, .int .i64 0, .int .i64 0, .int .i64 0, .int .i64 0, .slice none 0 0] T (0, 0)))
    (h5 : Blk6 W w1.heap.size T a0 a1 a2 a3 a4 a5) (hj : Kept (Just w1.heap.size) w2 W) (hp : PtsAt W v l (From (w1.heap.size + 1))) (hk : Kept Nob w w2) (hk3 : Kept Nob W w3) :
    w3.heap[w.heap.size]? = some (.cells #[.int .i64 0, .int .i64 0, .int .i64 0, .int .i64 0, .int .i64 0, .slice none 0 0] T (0, 0)) ∧ w3.heap[w1.heap.size]? = some (.cells #[a0, a1, a2, a3, a4, a5] T (0, 0)) ∧ PtsAt w3 v l (From (w1.heap.size + 1)) ∧ Kept Nob w w3 := by
  have hs : w.heap.size < w2.heap.size := (Array.getElem?_eq_some_iff.1 h2).1
  have hs1 : w1.heap.size < W.heap.size := (Array.getElem?_eq_some_iff.1 h5).1
  refine ⟨?_, ?_, hp.nob hk3, ?_⟩
  · rw [hk3.block _ (Nat.lt_of_lt_of_le hs hj.size) (fun f => f), hj.block _ hs (fun (e : w.heap.size = w1.heap.size) => by omega)]
    exact h2
  · rw [hk3.block _ hs1 (fun f => f)]
    exact h5
  · exact (hk.from (Nat.le_refl _) (hj.mono fun j _ (h : j = w1.heap.size) => show w.heap.size ≤ j by omega)).then hk3
set_option maxRecDepth 100000 in
set_option maxHeartbeats 8000000 in
theorem ref_ParseQuery (w : World) (s : List UInt8) (hs : s.length ≤ 400000) :
    Calls Tryz.prog 24 #[strV s] w (RParseQ w s) := by
  have hlen := sp_len s
  have HSp := fun (wx : World) => Lib.hid (ref_split wx s (by omega))
  obtain ⟨h, t, hht⟩ : ∃ h t, sp s = h :: t := by
    cases hsp : sp s with
    | nil => exact absurd hsp (sp_ne s)
    | cons h t => exact ⟨h, t, rfl⟩
  have HS := Lib.hid hht
  rw [hht] at hlen
  have HL := Lib.hid hlen
  have hl1 : (sp s).length = t.length + 1 := by rw [hht]; rfl
  have hn1 : t.length + 1 ≤ s.length + 1 := by simpa using hlen.1
  have HMany : Hid (70 < t.length + 1 → ∀ q, QrOk q → qrText q ≠ s) := Lib.hid (fun hm => qr_many (by rw [hl1]; exact hm))
  have HPts := fun (wx : World) (v : Value) (F : Nat → Prop) (hr : Reads wx v (t.map strV) F) => Lib.hid (ref_points wx v t F hr (by omega) (fun x hx => by have := hlen.2 x (by simp [hx]); omega))
  simp only [hht, List.map_cons] at HSp
  clear hlen hht hl1
  obtain ⟨sv, hsv⟩ : ∃ u, (⟨s.toArray⟩ : ByteArray) = u := ⟨_, rfl⟩
  obtain ⟨hv, hhv⟩ : ∃ u, (⟨h.toArray⟩ : ByteArray) = u := ⟨_, rfl⟩
  simp only [strV, hsv, hhv] at HSp ⊢
  have HHv := Lib.hid hhv
  have HSv := Lib.hid hsv
  clear hsv hhv
  go_enter Tryz.func24, Tryz.ntmps24
  go_wp2_with fail
  refine (HSp _).out.mono ?_
  rintro e w1 ⟨bo, cc, rfl, hown, hk1⟩
  obtain ⟨g, rfl⟩ := own_some hown (by simp)
  have bb := new1 hk1
  have c0 := cell_at bb 0 _ rfl
  have c1 := cell_at bb 1 _ rfl
  have c2 := cell_at bb 2 _ rfl
  have c3 := cell_at bb 3 _ rfl
  have c4 := cell_at bb 4 _ rfl
  have c5 := cell_at bb 5 _ rfl
  have f0 := frozen_at bb 0
  have f1 := frozen_at bb 1
  have f2 := frozen_at bb 2
  have f3 := frozen_at bb 3
  have f4 := frozen_at bb 4
  have f5 := frozen_at bb 5
  have hgl : w.heap.size < w1.heap.size := cell_lt (a := ⟨w.heap.size, 0, none⟩) c0
  have hgw : w.heap.size < g := by
    have := hown.2 g rfl
    simp [From] at this
    omega
  have BB := Lib.hid bb
  have HOw := Lib.hid hown
  have HK := Lib.hid ((Kept.alloc Nob w _).then hk1)
  clear bb hk1 hown HSp
  by_cases hmany : 70 < t.length + 1
  · have HN := Lib.hid (HMany.out hmany)
    have HF := Lib.hid (set6 (.int .i64 0) (.int .i64 0) (.int .i64 0) (.int .i64 0) (.int .i64 0) (.slice none 0 0) BB.out)
    have HKf := Lib.hid (HK.out.from (Nat.le_refl _) (HF.out.2.mono fun j _ (h : j = w.heap.size) => Nat.le_of_eq h.symm))
    go_wp2_with fail
    exact bodyPost_cell2 (p := 2) (u := 3) (ty := 46) (g := w.heap.size) (by kernel_rfl) rfl HF.out.1 Tryz.underlying46 rfl (by kernel_rfl) rfl (.inr ⟨HN.out, rfl, HKf.out⟩)
  have w0 := HOw.out.cell 0 _ rfl
  have hg1 : g < w1.heap.size := cell_lt (a := ⟨g, 0, none⟩) w0
  clear HMany
  have HQ := fun (wx : World) (k x1 y1 x2 y2 : Int) (v : Value) (l : List Pt) (F : Nat → Prop) (hp : PtsAt wx v l F) (hl : l.length < 1000000000) => Lib.hid (ref_Query wx k x1 y1 x2 y2 v l F hp hl)
  unfold strV at HQ
  by_cases hcc : cc = 1
  · subst hcc
    have ht0 : t = [] := by
      rcases HOw.out.shape with ⟨e, _⟩ | ⟨_, _, _, e, _, _, hc, _⟩
      · cases e
      · simp at e hc
        exact List.length_eq_zero_iff.1 (by omega)
    subst ht0
    have HTl := Lib.hid HOw.out.reads.tailc
    rw [if_pos rfl] at HTl
    simp only [List.length_cons, List.length_nil, Nat.zero_add, Nat.sub_self] at HTl
    go_wp2_with fail
    refine (HPts _ _ _ (HTl.out.alloc _)).out.mono ?_
    rintro e w2 ⟨u, b1, l, rfl, hp, hll, hres, hk2⟩
    obtain ⟨ua, uc, rfl⟩ := hp.shape
    have HRs := Lib.hid hres
    have b5 := new1 hk2
    have b2 : w2.heap[w.heap.size]? = some (.cells #[.int .i64 0, .int .i64 0, .int .i64 0, .int .i64 0, .int .i64 0, .slice none 0 0] 46 (0, 0)) := (hk2.block w.heap.size (by simp; omega) (fun f => f)).trans ((Go.heap_alloc_old w1 _ hgl).trans BB.out)
    have c0 := cell_at b2 0 _ rfl
    have c1 := cell_at b2 1 _ rfl
    have c2 := cell_at b2 2 _ rfl
    have c3 := cell_at b2 3 _ rfl
    have c4 := cell_at b2 4 _ rfl
    have c5 := cell_at b2 5 _ rfl
    have f0 := frozen_at b2 0
    have f1 := frozen_at b2 1
    have f2 := frozen_at b2 2
    have f3 := frozen_at b2 3
    have f4 := frozen_at b2 4
    have f5 := frozen_at b2 5
    have d0 := cell_at b5 0 _ rfl
    have d1 := cell_at b5 1 _ rfl
    have d2 := cell_at b5 2 _ rfl
    have d3 := cell_at b5 3 _ rfl
    have d4 := cell_at b5 4 _ rfl
    have d5 := cell_at b5 5 _ rfl
    have g0 := frozen_at b5 0
    have g1 := frozen_at b5 1
    have g2 := frozen_at b5 2
    have g3 := frozen_at b5 3
    have g4 := frozen_at b5 4
    have g5 := frozen_at b5 5
    have hg2 : w1.heap.size < w2.heap.size := cell_lt (a := ⟨w1.heap.size, 0, none⟩) d0
    have w02 := (hk2.cell (p := ⟨g, 0, none⟩) (by simp; omega) (fun f => f)).trans (((Kept.alloc Nob w1 _).cell (p := ⟨g, 0, none⟩) hg1 (fun f => f)).trans w0)
    have hgg2 : g < w2.heap.size := cell_lt (a := ⟨g, 0, none⟩) w02
    have B2 := Lib.hid b2
    have B5 := Lib.hid b5
    simp only [World.alloc, Array.size_push] at hp
    have HP := Lib.hid hp
    have HK2 := Lib.hid (HK.out.then ((Kept.alloc Nob w1 _).then hk2))
    have HLl := Lib.hid hll
    have hll2 : l.length < 1000000000 := by omega
    clear b2 b5 hp hk2 hres hll
    obtain rfl : l = [] := List.eq_nil_of_length_eq_zero (Nat.le_zero.1 HLl.out)
    have HN := Lib.hid (qr_no_pts HS.out HRs.out)
    have HF := Lib.hid (set6_fin (.int .i64 0) (.int .i64 0) (.int .i64 0) (.int .i64 0) (.int .i64 0) (.slice none 0 0) B2.out HK2.out)
    clear HQ HRs
    simp only [List.length_nil] at *
    cases b1
    all_goals go_wp2_with fail
    all_goals exact bodyPost_cell2 (p := 2) (u := 3) (ty := 46) (g := w.heap.size) (by kernel_rfl) rfl HF.out.1 Tryz.underlying46 rfl (by kernel_rfl) rfl (.inr ⟨HN.out, rfl, HF.out.2⟩)
  have HTl := Lib.hid HOw.out.reads.tailc
  rw [if_neg hcc] at HTl
  simp only [List.length_cons, Nat.add_sub_cancel] at HTl
  go_wp2_with fail
  refine (HPts _ _ _ (HTl.out.alloc _)).out.mono ?_
  rintro e w2 ⟨u, b1, l, rfl, hp, hll, hres, hk2⟩
  obtain ⟨ua, uc, rfl⟩ := hp.shape
  have HRs := Lib.hid hres
  have b5 := new1 hk2
  have b2 : w2.heap[w.heap.size]? = some (.cells #[.int .i64 0, .int .i64 0, .int .i64 0, .int .i64 0, .int .i64 0, .slice none 0 0] 46 (0, 0)) := (hk2.block w.heap.size (by simp; omega) (fun f => f)).trans ((Go.heap_alloc_old w1 _ hgl).trans BB.out)
  have c0 := cell_at b2 0 _ rfl
  have c1 := cell_at b2 1 _ rfl
  have c2 := cell_at b2 2 _ rfl
  have c3 := cell_at b2 3 _ rfl
  have c4 := cell_at b2 4 _ rfl
  have c5 := cell_at b2 5 _ rfl
  have f0 := frozen_at b2 0
  have f1 := frozen_at b2 1
  have f2 := frozen_at b2 2
  have f3 := frozen_at b2 3
  have f4 := frozen_at b2 4
  have f5 := frozen_at b2 5
  have d0 := cell_at b5 0 _ rfl
  have d1 := cell_at b5 1 _ rfl
  have d2 := cell_at b5 2 _ rfl
  have d3 := cell_at b5 3 _ rfl
  have d4 := cell_at b5 4 _ rfl
  have d5 := cell_at b5 5 _ rfl
  have g0 := frozen_at b5 0
  have g1 := frozen_at b5 1
  have g2 := frozen_at b5 2
  have g3 := frozen_at b5 3
  have g4 := frozen_at b5 4
  have g5 := frozen_at b5 5
  have hg2 : w1.heap.size < w2.heap.size := cell_lt (a := ⟨w1.heap.size, 0, none⟩) d0
  have w02 := (hk2.cell (p := ⟨g, 0, none⟩) (by simp; omega) (fun f => f)).trans (((Kept.alloc Nob w1 _).cell (p := ⟨g, 0, none⟩) hg1 (fun f => f)).trans w0)
  have hgg2 : g < w2.heap.size := cell_lt (a := ⟨g, 0, none⟩) w02
  have B2 := Lib.hid b2
  have B5 := Lib.hid b5
  simp only [World.alloc, Array.size_push] at hp
  have HP := Lib.hid hp
  have HK2 := Lib.hid (HK.out.then ((Kept.alloc Nob w1 _).then hk2))
  have HLl := Lib.hid hll
  have hll2 : l.length < 1000000000 := by omega
  clear b2 b5 hp hk2 hres hll
  clear HPts
  cases b1 with
  | false =>
    have HN := Lib.hid (qr_no_ok HS.out HRs.out)
    clear HQ HRs
    have HF := Lib.hid (set6_fin (.int .i64 0) (.int .i64 0) (.int .i64 0) (.int .i64 0) (.int .i64 0) (.slice none 0 0) B2.out HK2.out)
    go_wp2_with fail
    exact bodyPost_cell2 (p := 2) (u := 3) (ty := 46) (g := w.heap.size) (by kernel_rfl) rfl HF.out.1 Tryz.underlying46 rfl (by kernel_rfl) rfl (.inr ⟨HN.out, rfl, HF.out.2⟩)
  | true =>
  cases l with
  | nil =>
    have HN := Lib.hid (qr_no_pts HS.out HRs.out)
    clear HQ HRs
    simp only [List.length_nil] at *
    have HF := Lib.hid (set6_fin (.int .i64 0) (.int .i64 0) (.int .i64 0) (.int .i64 0) (.int .i64 0) (.slice none 0 0) B2.out HK2.out)
    go_wp2_with fail
    exact bodyPost_cell2 (p := 2) (u := 3) (ty := 46) (g := w.heap.size) (by kernel_rfl) rfl HF.out.1 Tryz.underlying46 rfl (by kernel_rfl) rfl (.inr ⟨HN.out, rfl, HF.out.2⟩)
  | cons p r =>
  simp only [List.length_cons] at *
  by_cases hh1 : h = wMeets
  · subst hh1
    have hv1 : hv = ⟨#[109, 101, 101, 116, 115]⟩ := HHv.out.symm
    subst hv1
    have HSk : Hid (sp s = qrWord 1 :: t) := Lib.hid HS.out
    cases r with
    | nil =>
      simp only [List.length_nil, Nat.zero_add] at *
      obtain ⟨x1, y1⟩ := p
      obtain ⟨pb, po, rfl, -, hpb, hF, e0, e1⟩ := HP.out.at (i := 0) (p := (x1, y1)) rfl
      have hpg : pb ≠ w1.heap.size := by
        have h1 : w1.heap.size + 1 ≤ pb := hF
        omega
      simp only [Nat.zero_mul, Nat.add_zero] at e0 e1
      have HBW : Hid (Blk6 (((w2.setCell ⟨w1.heap.size, 0, none⟩ (.int .i64 1)).setCell ⟨w1.heap.size, 1, none⟩ (.int .i64 x1)).setCell ⟨w1.heap.size, 2, none⟩ (.int .i64 y1)) w1.heap.size 46 (.int .i64 1) (.int .i64 x1) (.int .i64 y1) (.int .i64 0) (.int .i64 0) (.slice none 0 0)) := Lib.hid (heap_setCell_same _ w1.heap.size 2 _ 46 (.int .i64 y1) (heap_setCell_same _ w1.heap.size 1 _ 46 (.int .i64 x1) (heap_setCell_same _ w1.heap.size 0 _ 46 (.int .i64 1) B5.out)))
      have HJW : Hid (Kept (Just w1.heap.size) w2 (((w2.setCell ⟨w1.heap.size, 0, none⟩ (.int .i64 1)).setCell ⟨w1.heap.size, 1, none⟩ (.int .i64 x1)).setCell ⟨w1.heap.size, 2, none⟩ (.int .i64 y1))) := Lib.hid (((kept1 _ w1.heap.size 0 (.int .i64 1)).trans' (kept1 _ w1.heap.size 1 (.int .i64 x1))).trans' (kept1 _ w1.heap.size 2 (.int .i64 y1)))
      have HP3 : Hid (PtsAt (((w2.setCell ⟨w1.heap.size, 0, none⟩ (.int .i64 1)).setCell ⟨w1.heap.size, 1, none⟩ (.int .i64 x1)).setCell ⟨w1.heap.size, 2, none⟩ (.int .i64 y1)) (.slice none 0 0) [] (From (w1.heap.size + 1))) := Lib.hid (PtsAt.nils _ _)
      have HOc := HQ (((w2.setCell ⟨w1.heap.size, 0, none⟩ (.int .i64 1)).setCell ⟨w1.heap.size, 1, none⟩ (.int .i64 x1)).setCell ⟨w1.heap.size, 2, none⟩ (.int .i64 y1)) 1 x1 y1 0 0 (.slice none 0 0) [] _ HP3.out (by simp)
      obtain ⟨ov, hov⟩ : ∃ x, (⟨(qrText ⟨1, ⟨(x1, y1), (0, 0)⟩, []⟩).toArray⟩ : ByteArray) = x := ⟨_, rfl⟩
      rw [hov] at HOc
      have HOe : Hid (ov = sv ↔ qrText ⟨1, ⟨(x1, y1), (0, 0)⟩, []⟩ = s) := Lib.hid (by
        rw [← hov, ← HSv.out]
        exact ⟨fun h => mk_inj h, fun h => by rw [h]⟩)
      clear hov HQ
      go_wp2_with fail
      refine HOc.out.mono ?_
      rintro e w3 ⟨rfl, hk3⟩
      have HF3 := Lib.hid (rq_fin hgl B2.out HBW.out HJW.out HP3.out HK2.out hk3)
      have c0 := cell_at HF3.out.1 0 _ rfl
      have c1 := cell_at HF3.out.1 1 _ rfl
      have c2 := cell_at HF3.out.1 2 _ rfl
      have c3 := cell_at HF3.out.1 3 _ rfl
      have c4 := cell_at HF3.out.1 4 _ rfl
      have c5 := cell_at HF3.out.1 5 _ rfl
      have f0 := frozen_at HF3.out.1 0
      have f1 := frozen_at HF3.out.1 1
      have f2 := frozen_at HF3.out.1 2
      have f3 := frozen_at HF3.out.1 3
      have f4 := frozen_at HF3.out.1 4
      have f5 := frozen_at HF3.out.1 5
      have d0 := cell_at HF3.out.2.1 0 _ rfl
      have d1 := cell_at HF3.out.2.1 1 _ rfl
      have d2 := cell_at HF3.out.2.1 2 _ rfl
      have d3 := cell_at HF3.out.2.1 3 _ rfl
      have d4 := cell_at HF3.out.2.1 4 _ rfl
      have d5 := cell_at HF3.out.2.1 5 _ rfl
      have g0 := frozen_at HF3.out.2.1 0
      have g1 := frozen_at HF3.out.2.1 1
      have g2 := frozen_at HF3.out.2.1 2
      have g3 := frozen_at HF3.out.2.1 3
      have g4 := frozen_at HF3.out.2.1 4
      have g5 := frozen_at HF3.out.2.1 5
      have hls : sv.toList = s := by rw [← HSv.out, ByteArray.toList_eq]
      have hos : ov ≠ sv → (ov.toList == s) = false := fun hn => by
        rw [← hls]
        simp only [beq_eq_false_iff_ne, ne_eq]
        intro e
        apply hn
        rw [ByteArray.toList_eq, ByteArray.toList_eq] at e
        exact ByteArray.ext (Array.ext' e)
      clear hk3
      by_cases ho : ov = sv
      · subst ho
        by_cases hse : s = []
        · have HN : Hid (∀ q, QrOk q → qrText q ≠ s) := Lib.hid (fun q hq he => qrText_iff.2 hq (he.trans hse))
          have HF := Lib.hid (set6_fin (.int .i64 0) (.int .i64 0) (.int .i64 0) (.int .i64 0) (.int .i64 0) (.slice none 0 0) HF3.out.1 HF3.out.2.2.2)
          have hse2 : ov.toList = [] := by rw [hls, hse]
          clear hls hos
          go_wp2_with fail
          exact bodyPost_cell2 (p := 2) (u := 3) (ty := 46) (g := w.heap.size) (by kernel_rfl) rfl HF.out.1 Tryz.underlying46 rfl (by kernel_rfl) rfl (.inr ⟨HN.out, rfl, HF.out.2⟩)
        · have HY := Lib.hid (HOe.out.1 rfl)
          have HYo : Hid (QrOk ⟨1, ⟨(x1, y1), (0, 0)⟩, []⟩) := Lib.hid (qrText_iff.1 (by rw [HY.out]; exact hse))
          have HD : Hid ((⟨1, ⟨(x1, y1), (0, 0)⟩, []⟩ : Qr) = qrOf 1 (qrPts ⟨1, ⟨(x1, y1), (0, 0)⟩, []⟩)) := Lib.hid (docQ_other (k := 1) (by simp) HSk.out HRs.out HYo.out HY.out).1
          have HF := Lib.hid (set6_fin (.int .i64 1) (.int .i64 x1) (.int .i64 y1) (.int .i64 0) (.int .i64 0) (.slice none 0 0) HF3.out.1 HF3.out.2.2.2)
          have HPf := Lib.hid (pts6 (w := w) (n := w1.heap.size + 1) (.int .i64 1) (.int .i64 x1) (.int .i64 y1) (.int .i64 0) (.int .i64 0) (.slice none 0 0) (by omega) HF3.out.2.2.1)
          have hse2 : ov.toList.isEmpty = false := by rw [hls]; simpa using hse
          clear hls hos
          go_wp2_with fail
          exact bodyPost_cell2 (p := 2) (u := 3) (ty := 46) (g := w.heap.size) (by kernel_rfl) rfl HF.out.1 Tryz.underlying46 rfl (by kernel_rfl) rfl (rq_yes HYo.out HY.out HD.out rfl HPf.out HF.out.2)
      · have HN : Hid (∀ q, QrOk q → qrText q ≠ s) := Lib.hid (fun q hq he => ho (HOe.out.2 (docQ_other (k := 1) (by simp) HSk.out HRs.out hq he).2))
        have HF := Lib.hid (set6_fin (.int .i64 0) (.int .i64 0) (.int .i64 0) (.int .i64 0) (.int .i64 0) (.slice none 0 0) HF3.out.1 HF3.out.2.2.2)
        have hos2 : (ov.toList == sv.toList) = false := by rw [hls]; exact hos ho
        clear hls hos
        go_wp2_with fail
        exact bodyPost_cell2 (p := 2) (u := 3) (ty := 46) (g := w.heap.size) (by kernel_rfl) rfl HF.out.1 Tryz.underlying46 rfl (by kernel_rfl) rfl (.inr ⟨HN.out, rfl, HF.out.2⟩)
    | cons q r =>
      cases r with
      | nil =>
        simp only [List.length_nil, List.length_cons, Nat.zero_add, Nat.reduceAdd] at *
        obtain ⟨x1, y1⟩ := p
        obtain ⟨x2, y2⟩ := q
        obtain ⟨pb, po, rfl, -, hpb, hF, e0, e1⟩ := HP.out.at (i := 0) (p := (x1, y1)) rfl
        have hpg : pb ≠ w1.heap.size := by
          have h1 : w1.heap.size + 1 ≤ pb := hF
          omega
        obtain ⟨_, _, e', -, -, -, e2, e3⟩ := HP.out.at (i := 1) (p := (x2, y2)) rfl
        simp only [Option.some.injEq, Addr.mk.injEq, and_true] at e'
        obtain ⟨rfl, rfl⟩ := e'
        simp only [Nat.zero_mul, Nat.add_zero, Nat.one_mul] at e0 e1 e2 e3
        have HBW : Hid (Blk6 ((((((w2.setCell ⟨w1.heap.size, 0, none⟩ (.int .i64 1)).setCell ⟨w1.heap.size, 1, none⟩ (.int .i64 x1)).setCell ⟨w1.heap.size, 2, none⟩ (.int .i64 y1)).setCell ⟨w1.heap.size, 3, none⟩ (.int .i64 x2)).setCell ⟨w1.heap.size, 4, none⟩ (.int .i64 y2)).drew) w1.heap.size 46 (.int .i64 1) (.int .i64 x1) (.int .i64 y1) (.int .i64 x2) (.int .i64 y2) (.slice none 0 0)) := Lib.hid (heap_setCell_same _ w1.heap.size 4 _ 46 (.int .i64 y2) (heap_setCell_same _ w1.heap.size 3 _ 46 (.int .i64 x2) (heap_setCell_same _ w1.heap.size 2 _ 46 (.int .i64 y1) (heap_setCell_same _ w1.heap.size 1 _ 46 (.int .i64 x1) (heap_setCell_same _ w1.heap.size 0 _ 46 (.int .i64 1) B5.out)))))
        have HJW : Hid (Kept (Just w1.heap.size) w2 ((((((w2.setCell ⟨w1.heap.size, 0, none⟩ (.int .i64 1)).setCell ⟨w1.heap.size, 1, none⟩ (.int .i64 x1)).setCell ⟨w1.heap.size, 2, none⟩ (.int .i64 y1)).setCell ⟨w1.heap.size, 3, none⟩ (.int .i64 x2)).setCell ⟨w1.heap.size, 4, none⟩ (.int .i64 y2)).drew)) := Lib.hid (((((kept1 _ w1.heap.size 0 (.int .i64 1)).trans' (kept1 _ w1.heap.size 1 (.int .i64 x1))).trans' (kept1 _ w1.heap.size 2 (.int .i64 y1))).trans' (kept1 _ w1.heap.size 3 (.int .i64 x2))).trans' (kept1 _ w1.heap.size 4 (.int .i64 y2))).trans' (Kept.drew _ _)
        have HP3 : Hid (PtsAt ((((((w2.setCell ⟨w1.heap.size, 0, none⟩ (.int .i64 1)).setCell ⟨w1.heap.size, 1, none⟩ (.int .i64 x1)).setCell ⟨w1.heap.size, 2, none⟩ (.int .i64 y1)).setCell ⟨w1.heap.size, 3, none⟩ (.int .i64 x2)).setCell ⟨w1.heap.size, 4, none⟩ (.int .i64 y2)).drew) (.slice none 0 0) [] (From (w1.heap.size + 1))) := Lib.hid (PtsAt.nils _ _)
        have HOc := HQ ((((((w2.setCell ⟨w1.heap.size, 0, none⟩ (.int .i64 1)).setCell ⟨w1.heap.size, 1, none⟩ (.int .i64 x1)).setCell ⟨w1.heap.size, 2, none⟩ (.int .i64 y1)).setCell ⟨w1.heap.size, 3, none⟩ (.int .i64 x2)).setCell ⟨w1.heap.size, 4, none⟩ (.int .i64 y2)).drew) 1 x1 y1 x2 y2 (.slice none 0 0) [] _ HP3.out (by simp)
        obtain ⟨ov, hov⟩ : ∃ x, (⟨(qrText ⟨1, ⟨(x1, y1), (x2, y2)⟩, []⟩).toArray⟩ : ByteArray) = x := ⟨_, rfl⟩
        rw [hov] at HOc
        have HOe : Hid (ov = sv ↔ qrText ⟨1, ⟨(x1, y1), (x2, y2)⟩, []⟩ = s) := Lib.hid (by
          rw [← hov, ← HSv.out]
          exact ⟨fun h => mk_inj h, fun h => by rw [h]⟩)
        clear hov HQ
        go_wp2_with fail
        go_region
        go_wp2_with fail
        refine HOc.out.mono ?_
        rintro e w3 ⟨rfl, hk3⟩
        have HF3 := Lib.hid (rq_fin hgl B2.out HBW.out HJW.out HP3.out HK2.out hk3)
        have c0 := cell_at HF3.out.1 0 _ rfl
        have c1 := cell_at HF3.out.1 1 _ rfl
        have c2 := cell_at HF3.out.1 2 _ rfl
        have c3 := cell_at HF3.out.1 3 _ rfl
        have c4 := cell_at HF3.out.1 4 _ rfl
        have c5 := cell_at HF3.out.1 5 _ rfl
        have f0 := frozen_at HF3.out.1 0
        have f1 := frozen_at HF3.out.1 1
        have f2 := frozen_at HF3.out.1 2
        have f3 := frozen_at HF3.out.1 3
        have f4 := frozen_at HF3.out.1 4
        have f5 := frozen_at HF3.out.1 5
        have d0 := cell_at HF3.out.2.1 0 _ rfl
        have d1 := cell_at HF3.out.2.1 1 _ rfl
        have d2 := cell_at HF3.out.2.1 2 _ rfl
        have d3 := cell_at HF3.out.2.1 3 _ rfl
        have d4 := cell_at HF3.out.2.1 4 _ rfl
        have d5 := cell_at HF3.out.2.1 5 _ rfl
        have g0 := frozen_at HF3.out.2.1 0
        have g1 := frozen_at HF3.out.2.1 1
        have g2 := frozen_at HF3.out.2.1 2
        have g3 := frozen_at HF3.out.2.1 3
        have g4 := frozen_at HF3.out.2.1 4
        have g5 := frozen_at HF3.out.2.1 5
        have hls : sv.toList = s := by rw [← HSv.out, ByteArray.toList_eq]
        have hos : ov ≠ sv → (ov.toList == s) = false := fun hn => by
          rw [← hls]
          simp only [beq_eq_false_iff_ne, ne_eq]
          intro e
          apply hn
          rw [ByteArray.toList_eq, ByteArray.toList_eq] at e
          exact ByteArray.ext (Array.ext' e)
        clear hk3
        by_cases ho : ov = sv
        · subst ho
          by_cases hse : s = []
          · have HN : Hid (∀ q, QrOk q → qrText q ≠ s) := Lib.hid (fun q hq he => qrText_iff.2 hq (he.trans hse))
            have HF := Lib.hid (set6_fin (.int .i64 0) (.int .i64 0) (.int .i64 0) (.int .i64 0) (.int .i64 0) (.slice none 0 0) HF3.out.1 HF3.out.2.2.2)
            have hse2 : ov.toList = [] := by rw [hls, hse]
            clear hls hos
            go_wp2_with fail
            exact bodyPost_cell2 (p := 2) (u := 3) (ty := 46) (g := w.heap.size) (by kernel_rfl) rfl HF.out.1 Tryz.underlying46 rfl (by kernel_rfl) rfl (.inr ⟨HN.out, rfl, HF.out.2⟩)
          · have HY := Lib.hid (HOe.out.1 rfl)
            have HYo : Hid (QrOk ⟨1, ⟨(x1, y1), (x2, y2)⟩, []⟩) := Lib.hid (qrText_iff.1 (by rw [HY.out]; exact hse))
            have HD : Hid ((⟨1, ⟨(x1, y1), (x2, y2)⟩, []⟩ : Qr) = qrOf 1 (qrPts ⟨1, ⟨(x1, y1), (x2, y2)⟩, []⟩)) := Lib.hid (docQ_other (k := 1) (by simp) HSk.out HRs.out HYo.out HY.out).1
            have HF := Lib.hid (set6_fin (.int .i64 1) (.int .i64 x1) (.int .i64 y1) (.int .i64 x2) (.int .i64 y2) (.slice none 0 0) HF3.out.1 HF3.out.2.2.2)
            have HPf := Lib.hid (pts6 (w := w) (n := w1.heap.size + 1) (.int .i64 1) (.int .i64 x1) (.int .i64 y1) (.int .i64 x2) (.int .i64 y2) (.slice none 0 0) (by omega) HF3.out.2.2.1)
            have hse2 : ov.toList.isEmpty = false := by rw [hls]; simpa using hse
            clear hls hos
            go_wp2_with fail
            exact bodyPost_cell2 (p := 2) (u := 3) (ty := 46) (g := w.heap.size) (by kernel_rfl) rfl HF.out.1 Tryz.underlying46 rfl (by kernel_rfl) rfl (rq_yes HYo.out HY.out HD.out rfl HPf.out HF.out.2)
        · have HN : Hid (∀ q, QrOk q → qrText q ≠ s) := Lib.hid (fun q hq he => ho (HOe.out.2 (docQ_other (k := 1) (by simp) HSk.out HRs.out hq he).2))
          have HF := Lib.hid (set6_fin (.int .i64 0) (.int .i64 0) (.int .i64 0) (.int .i64 0) (.int .i64 0) (.slice none 0 0) HF3.out.1 HF3.out.2.2.2)
          have hos2 : (ov.toList == sv.toList) = false := by rw [hls]; exact hos ho
          clear hls hos
          go_wp2_with fail
          exact bodyPost_cell2 (p := 2) (u := 3) (ty := 46) (g := w.heap.size) (by kernel_rfl) rfl HF.out.1 Tryz.underlying46 rfl (by kernel_rfl) rfl (.inr ⟨HN.out, rfl, HF.out.2⟩)
      | cons o r =>
        simp only [List.length_cons] at *
        have n1 : ((r.length : Int) + 1 + 1 + 1 == 1) = false := by simp; omega
        have n2 : ((r.length : Int) + 1 + 1 + 1 == 2) = false := by simp; omega
        have HBW : Hid (Blk6 (w2.setCell ⟨w1.heap.size, 0, none⟩ (.int .i64 1)) w1.heap.size 46 (.int .i64 1) (.int .i64 0) (.int .i64 0) (.int .i64 0) (.int .i64 0) (.slice none 0 0)) := Lib.hid (heap_setCell_same _ w1.heap.size 0 _ 46 (.int .i64 1) B5.out)
        have HJW : Hid (Kept (Just w1.heap.size) w2 (w2.setCell ⟨w1.heap.size, 0, none⟩ (.int .i64 1))) := Lib.hid (kept1 _ w1.heap.size 0 (.int .i64 1))
        have HP3 : Hid (PtsAt (w2.setCell ⟨w1.heap.size, 0, none⟩ (.int .i64 1)) (.slice none 0 0) [] (From (w1.heap.size + 1))) := Lib.hid (PtsAt.nils _ _)
        have HOc := HQ (w2.setCell ⟨w1.heap.size, 0, none⟩ (.int .i64 1)) 1 0 0 0 0 (.slice none 0 0) [] _ HP3.out (by simp)
        obtain ⟨ov, hov⟩ : ∃ x, (⟨(qrText ⟨1, ⟨(0, 0), (0, 0)⟩, []⟩).toArray⟩ : ByteArray) = x := ⟨_, rfl⟩
        rw [hov] at HOc
        have HOe : Hid (ov = sv ↔ qrText ⟨1, ⟨(0, 0), (0, 0)⟩, []⟩ = s) := Lib.hid (by
          rw [← hov, ← HSv.out]
          exact ⟨fun h => mk_inj h, fun h => by rw [h]⟩)
        clear hov HQ
        go_wp2_with fail
        refine HOc.out.mono ?_
        rintro e w3 ⟨rfl, hk3⟩
        have HF3 := Lib.hid (rq_fin hgl B2.out HBW.out HJW.out HP3.out HK2.out hk3)
        have c0 := cell_at HF3.out.1 0 _ rfl
        have c1 := cell_at HF3.out.1 1 _ rfl
        have c2 := cell_at HF3.out.1 2 _ rfl
        have c3 := cell_at HF3.out.1 3 _ rfl
        have c4 := cell_at HF3.out.1 4 _ rfl
        have c5 := cell_at HF3.out.1 5 _ rfl
        have f0 := frozen_at HF3.out.1 0
        have f1 := frozen_at HF3.out.1 1
        have f2 := frozen_at HF3.out.1 2
        have f3 := frozen_at HF3.out.1 3
        have f4 := frozen_at HF3.out.1 4
        have f5 := frozen_at HF3.out.1 5
        have d0 := cell_at HF3.out.2.1 0 _ rfl
        have d1 := cell_at HF3.out.2.1 1 _ rfl
        have d2 := cell_at HF3.out.2.1 2 _ rfl
        have d3 := cell_at HF3.out.2.1 3 _ rfl
        have d4 := cell_at HF3.out.2.1 4 _ rfl
        have d5 := cell_at HF3.out.2.1 5 _ rfl
        have g0 := frozen_at HF3.out.2.1 0
        have g1 := frozen_at HF3.out.2.1 1
        have g2 := frozen_at HF3.out.2.1 2
        have g3 := frozen_at HF3.out.2.1 3
        have g4 := frozen_at HF3.out.2.1 4
        have g5 := frozen_at HF3.out.2.1 5
        have hls : sv.toList = s := by rw [← HSv.out, ByteArray.toList_eq]
        have hos : ov ≠ sv → (ov.toList == s) = false := fun hn => by
          rw [← hls]
          simp only [beq_eq_false_iff_ne, ne_eq]
          intro e
          apply hn
          rw [ByteArray.toList_eq, ByteArray.toList_eq] at e
          exact ByteArray.ext (Array.ext' e)
        clear hk3
        by_cases ho : ov = sv
        · subst ho
          by_cases hse : s = []
          · have HN : Hid (∀ q, QrOk q → qrText q ≠ s) := Lib.hid (fun q hq he => qrText_iff.2 hq (he.trans hse))
            have HF := Lib.hid (set6_fin (.int .i64 0) (.int .i64 0) (.int .i64 0) (.int .i64 0) (.int .i64 0) (.slice none 0 0) HF3.out.1 HF3.out.2.2.2)
            have hse2 : ov.toList = [] := by rw [hls, hse]
            clear hls hos
            go_wp2_with fail
            exact bodyPost_cell2 (p := 2) (u := 3) (ty := 46) (g := w.heap.size) (by kernel_rfl) rfl HF.out.1 Tryz.underlying46 rfl (by kernel_rfl) rfl (.inr ⟨HN.out, rfl, HF.out.2⟩)
          · have HY := Lib.hid (HOe.out.1 rfl)
            have HYo : Hid (QrOk ⟨1, ⟨(0, 0), (0, 0)⟩, []⟩) := Lib.hid (qrText_iff.1 (by rw [HY.out]; exact hse))
            have HD : Hid ((⟨1, ⟨(0, 0), (0, 0)⟩, []⟩ : Qr) = qrOf 1 (qrPts ⟨1, ⟨(0, 0), (0, 0)⟩, []⟩)) := Lib.hid (docQ_other (k := 1) (by simp) HSk.out HRs.out HYo.out HY.out).1
            have HF := Lib.hid (set6_fin (.int .i64 1) (.int .i64 0) (.int .i64 0) (.int .i64 0) (.int .i64 0) (.slice none 0 0) HF3.out.1 HF3.out.2.2.2)
            have HPf := Lib.hid (pts6 (w := w) (n := w1.heap.size + 1) (.int .i64 1) (.int .i64 0) (.int .i64 0) (.int .i64 0) (.int .i64 0) (.slice none 0 0) (by omega) HF3.out.2.2.1)
            have hse2 : ov.toList.isEmpty = false := by rw [hls]; simpa using hse
            clear hls hos
            go_wp2_with fail
            exact bodyPost_cell2 (p := 2) (u := 3) (ty := 46) (g := w.heap.size) (by kernel_rfl) rfl HF.out.1 Tryz.underlying46 rfl (by kernel_rfl) rfl (rq_yes HYo.out HY.out HD.out rfl HPf.out HF.out.2)
        · have HN : Hid (∀ q, QrOk q → qrText q ≠ s) := Lib.hid (fun q hq he => ho (HOe.out.2 (docQ_other (k := 1) (by simp) HSk.out HRs.out hq he).2))
          have HF := Lib.hid (set6_fin (.int .i64 0) (.int .i64 0) (.int .i64 0) (.int .i64 0) (.int .i64 0) (.slice none 0 0) HF3.out.1 HF3.out.2.2.2)
          have hos2 : (ov.toList == sv.toList) = false := by rw [hls]; exact hos ho
          clear hls hos
          go_wp2_with fail
          exact bodyPost_cell2 (p := 2) (u := 3) (ty := 46) (g := w.heap.size) (by kernel_rfl) rfl HF.out.1 Tryz.underlying46 rfl (by kernel_rfl) rfl (.inr ⟨HN.out, rfl, HF.out.2⟩)
  by_cases hh2 : h = wInside
  · subst hh2
    have hv1 : hv = ⟨#[105, 110, 115, 105, 100, 101]⟩ := HHv.out.symm
    subst hv1
    have HSk : Hid (sp s = qrWord 2 :: t) := Lib.hid HS.out
    cases r with
    | nil =>
      simp only [List.length_nil, Nat.zero_add] at *
      obtain ⟨x1, y1⟩ := p
      obtain ⟨pb, po, rfl, -, hpb, hF, e0, e1⟩ := HP.out.at (i := 0) (p := (x1, y1)) rfl
      have hpg : pb ≠ w1.heap.size := by
        have h1 : w1.heap.size + 1 ≤ pb := hF
        omega
      simp only [Nat.zero_mul, Nat.add_zero] at e0 e1
      have HBW : Hid (Blk6 (((w2.setCell ⟨w1.heap.size, 0, none⟩ (.int .i64 2)).setCell ⟨w1.heap.size, 1, none⟩ (.int .i64 x1)).setCell ⟨w1.heap.size, 2, none⟩ (.int .i64 y1)) w1.heap.size 46 (.int .i64 2) (.int .i64 x1) (.int .i64 y1) (.int .i64 0) (.int .i64 0) (.slice none 0 0)) := Lib.hid (heap_setCell_same _ w1.heap.size 2 _ 46 (.int .i64 y1) (heap_setCell_same _ w1.heap.size 1 _ 46 (.int .i64 x1) (heap_setCell_same _ w1.heap.size 0 _ 46 (.int .i64 2) B5.out)))
      have HJW : Hid (Kept (Just w1.heap.size) w2 (((w2.setCell ⟨w1.heap.size, 0, none⟩ (.int .i64 2)).setCell ⟨w1.heap.size, 1, none⟩ (.int .i64 x1)).setCell ⟨w1.heap.size, 2, none⟩ (.int .i64 y1))) := Lib.hid (((kept1 _ w1.heap.size 0 (.int .i64 2)).trans' (kept1 _ w1.heap.size 1 (.int .i64 x1))).trans' (kept1 _ w1.heap.size 2 (.int .i64 y1)))
      have HP3 : Hid (PtsAt (((w2.setCell ⟨w1.heap.size, 0, none⟩ (.int .i64 2)).setCell ⟨w1.heap.size, 1, none⟩ (.int .i64 x1)).setCell ⟨w1.heap.size, 2, none⟩ (.int .i64 y1)) (.slice none 0 0) [] (From (w1.heap.size + 1))) := Lib.hid (PtsAt.nils _ _)
      have HOc := HQ (((w2.setCell ⟨w1.heap.size, 0, none⟩ (.int .i64 2)).setCell ⟨w1.heap.size, 1, none⟩ (.int .i64 x1)).setCell ⟨w1.heap.size, 2, none⟩ (.int .i64 y1)) 2 x1 y1 0 0 (.slice none 0 0) [] _ HP3.out (by simp)
      obtain ⟨ov, hov⟩ : ∃ x, (⟨(qrText ⟨2, ⟨(x1, y1), (0, 0)⟩, []⟩).toArray⟩ : ByteArray) = x := ⟨_, rfl⟩
      rw [hov] at HOc
      have HOe : Hid (ov = sv ↔ qrText ⟨2, ⟨(x1, y1), (0, 0)⟩, []⟩ = s) := Lib.hid (by
        rw [← hov, ← HSv.out]
        exact ⟨fun h => mk_inj h, fun h => by rw [h]⟩)
      clear hov HQ
      go_wp2_with fail
      refine HOc.out.mono ?_
      rintro e w3 ⟨rfl, hk3⟩
      have HF3 := Lib.hid (rq_fin hgl B2.out HBW.out HJW.out HP3.out HK2.out hk3)
      have c0 := cell_at HF3.out.1 0 _ rfl
      have c1 := cell_at HF3.out.1 1 _ rfl
      have c2 := cell_at HF3.out.1 2 _ rfl
      have c3 := cell_at HF3.out.1 3 _ rfl
      have c4 := cell_at HF3.out.1 4 _ rfl
      have c5 := cell_at HF3.out.1 5 _ rfl
      have f0 := frozen_at HF3.out.1 0
      have f1 := frozen_at HF3.out.1 1
      have f2 := frozen_at HF3.out.1 2
      have f3 := frozen_at HF3.out.1 3
      have f4 := frozen_at HF3.out.1 4
      have f5 := frozen_at HF3.out.1 5
      have d0 := cell_at HF3.out.2.1 0 _ rfl
      have d1 := cell_at HF3.out.2.1 1 _ rfl
      have d2 := cell_at HF3.out.2.1 2 _ rfl
      have d3 := cell_at HF3.out.2.1 3 _ rfl
      have d4 := cell_at HF3.out.2.1 4 _ rfl
      have d5 := cell_at HF3.out.2.1 5 _ rfl
      have g0 := frozen_at HF3.out.2.1 0
      have g1 := frozen_at HF3.out.2.1 1
      have g2 := frozen_at HF3.out.2.1 2
      have g3 := frozen_at HF3.out.2.1 3
      have g4 := frozen_at HF3.out.2.1 4
      have g5 := frozen_at HF3.out.2.1 5
      have hls : sv.toList = s := by rw [← HSv.out, ByteArray.toList_eq]
      have hos : ov ≠ sv → (ov.toList == s) = false := fun hn => by
        rw [← hls]
        simp only [beq_eq_false_iff_ne, ne_eq]
        intro e
        apply hn
        rw [ByteArray.toList_eq, ByteArray.toList_eq] at e
        exact ByteArray.ext (Array.ext' e)
      clear hk3
      by_cases ho : ov = sv
      · subst ho
        by_cases hse : s = []
        · have HN : Hid (∀ q, QrOk q → qrText q ≠ s) := Lib.hid (fun q hq he => qrText_iff.2 hq (he.trans hse))
          have HF := Lib.hid (set6_fin (.int .i64 0) (.int .i64 0) (.int .i64 0) (.int .i64 0) (.int .i64 0) (.slice none 0 0) HF3.out.1 HF3.out.2.2.2)
          have hse2 : ov.toList = [] := by rw [hls, hse]
          clear hls hos
          go_wp2_with fail
          exact bodyPost_cell2 (p := 2) (u := 3) (ty := 46) (g := w.heap.size) (by kernel_rfl) rfl HF.out.1 Tryz.underlying46 rfl (by kernel_rfl) rfl (.inr ⟨HN.out, rfl, HF.out.2⟩)
        · have HY := Lib.hid (HOe.out.1 rfl)
          have HYo : Hid (QrOk ⟨2, ⟨(x1, y1), (0, 0)⟩, []⟩) := Lib.hid (qrText_iff.1 (by rw [HY.out]; exact hse))
          have HD : Hid ((⟨2, ⟨(x1, y1), (0, 0)⟩, []⟩ : Qr) = qrOf 2 (qrPts ⟨2, ⟨(x1, y1), (0, 0)⟩, []⟩)) := Lib.hid (docQ_other (k := 2) (by simp) HSk.out HRs.out HYo.out HY.out).1
          have HF := Lib.hid (set6_fin (.int .i64 2) (.int .i64 x1) (.int .i64 y1) (.int .i64 0) (.int .i64 0) (.slice none 0 0) HF3.out.1 HF3.out.2.2.2)
          have HPf := Lib.hid (pts6 (w := w) (n := w1.heap.size + 1) (.int .i64 2) (.int .i64 x1) (.int .i64 y1) (.int .i64 0) (.int .i64 0) (.slice none 0 0) (by omega) HF3.out.2.2.1)
          have hse2 : ov.toList.isEmpty = false := by rw [hls]; simpa using hse
          clear hls hos
          go_wp2_with fail
          exact bodyPost_cell2 (p := 2) (u := 3) (ty := 46) (g := w.heap.size) (by kernel_rfl) rfl HF.out.1 Tryz.underlying46 rfl (by kernel_rfl) rfl (rq_yes HYo.out HY.out HD.out rfl HPf.out HF.out.2)
      · have HN : Hid (∀ q, QrOk q → qrText q ≠ s) := Lib.hid (fun q hq he => ho (HOe.out.2 (docQ_other (k := 2) (by simp) HSk.out HRs.out hq he).2))
        have HF := Lib.hid (set6_fin (.int .i64 0) (.int .i64 0) (.int .i64 0) (.int .i64 0) (.int .i64 0) (.slice none 0 0) HF3.out.1 HF3.out.2.2.2)
        have hos2 : (ov.toList == sv.toList) = false := by rw [hls]; exact hos ho
        clear hls hos
        go_wp2_with fail
        exact bodyPost_cell2 (p := 2) (u := 3) (ty := 46) (g := w.heap.size) (by kernel_rfl) rfl HF.out.1 Tryz.underlying46 rfl (by kernel_rfl) rfl (.inr ⟨HN.out, rfl, HF.out.2⟩)
    | cons q r =>
      cases r with
      | nil =>
        simp only [List.length_nil, List.length_cons, Nat.zero_add, Nat.reduceAdd] at *
        obtain ⟨x1, y1⟩ := p
        obtain ⟨x2, y2⟩ := q
        obtain ⟨pb, po, rfl, -, hpb, hF, e0, e1⟩ := HP.out.at (i := 0) (p := (x1, y1)) rfl
        have hpg : pb ≠ w1.heap.size := by
          have h1 : w1.heap.size + 1 ≤ pb := hF
          omega
        obtain ⟨_, _, e', -, -, -, e2, e3⟩ := HP.out.at (i := 1) (p := (x2, y2)) rfl
        simp only [Option.some.injEq, Addr.mk.injEq, and_true] at e'
        obtain ⟨rfl, rfl⟩ := e'
        simp only [Nat.zero_mul, Nat.add_zero, Nat.one_mul] at e0 e1 e2 e3
        have HBW : Hid (Blk6 ((((((w2.setCell ⟨w1.heap.size, 0, none⟩ (.int .i64 2)).setCell ⟨w1.heap.size, 1, none⟩ (.int .i64 x1)).setCell ⟨w1.heap.size, 2, none⟩ (.int .i64 y1)).setCell ⟨w1.heap.size, 3, none⟩ (.int .i64 x2)).setCell ⟨w1.heap.size, 4, none⟩ (.int .i64 y2)).drew) w1.heap.size 46 (.int .i64 2) (.int .i64 x1) (.int .i64 y1) (.int .i64 x2) (.int .i64 y2) (.slice none 0 0)) := Lib.hid (heap_setCell_same _ w1.heap.size 4 _ 46 (.int .i64 y2) (heap_setCell_same _ w1.heap.size 3 _ 46 (.int .i64 x2) (heap_setCell_same _ w1.heap.size 2 _ 46 (.int .i64 y1) (heap_setCell_same _ w1.heap.size 1 _ 46 (.int .i64 x1) (heap_setCell_same _ w1.heap.size 0 _ 46 (.int .i64 2) B5.out)))))
        have HJW : Hid (Kept (Just w1.heap.size) w2 ((((((w2.setCell ⟨w1.heap.size, 0, none⟩ (.int .i64 2)).setCell ⟨w1.heap.size, 1, none⟩ (.int .i64 x1)).setCell ⟨w1.heap.size, 2, none⟩ (.int .i64 y1)).setCell ⟨w1.heap.size, 3, none⟩ (.int .i64 x2)).setCell ⟨w1.heap.size, 4, none⟩ (.int .i64 y2)).drew)) := Lib.hid (((((kept1 _ w1.heap.size 0 (.int .i64 2)).trans' (kept1 _ w1.heap.size 1 (.int .i64 x1))).trans' (kept1 _ w1.heap.size 2 (.int .i64 y1))).trans' (kept1 _ w1.heap.size 3 (.int .i64 x2))).trans' (kept1 _ w1.heap.size 4 (.int .i64 y2))).trans' (Kept.drew _ _)
        have HP3 : Hid (PtsAt ((((((w2.setCell ⟨w1.heap.size, 0, none⟩ (.int .i64 2)).setCell ⟨w1.heap.size, 1, none⟩ (.int .i64 x1)).setCell ⟨w1.heap.size, 2, none⟩ (.int .i64 y1)).setCell ⟨w1.heap.size, 3, none⟩ (.int .i64 x2)).setCell ⟨w1.heap.size, 4, none⟩ (.int .i64 y2)).drew) (.slice none 0 0) [] (From (w1.heap.size + 1))) := Lib.hid (PtsAt.nils _ _)
        have HOc := HQ ((((((w2.setCell ⟨w1.heap.size, 0, none⟩ (.int .i64 2)).setCell ⟨w1.heap.size, 1, none⟩ (.int .i64 x1)).setCell ⟨w1.heap.size, 2, none⟩ (.int .i64 y1)).setCell ⟨w1.heap.size, 3, none⟩ (.int .i64 x2)).setCell ⟨w1.heap.size, 4, none⟩ (.int .i64 y2)).drew) 2 x1 y1 x2 y2 (.slice none 0 0) [] _ HP3.out (by simp)
        obtain ⟨ov, hov⟩ : ∃ x, (⟨(qrText ⟨2, ⟨(x1, y1), (x2, y2)⟩, []⟩).toArray⟩ : ByteArray) = x := ⟨_, rfl⟩
        rw [hov] at HOc
        have HOe : Hid (ov = sv ↔ qrText ⟨2, ⟨(x1, y1), (x2, y2)⟩, []⟩ = s) := Lib.hid (by
          rw [← hov, ← HSv.out]
          exact ⟨fun h => mk_inj h, fun h => by rw [h]⟩)
        clear hov HQ
        go_wp2_with fail
        go_region
        go_wp2_with fail
        refine HOc.out.mono ?_
        rintro e w3 ⟨rfl, hk3⟩
        have HF3 := Lib.hid (rq_fin hgl B2.out HBW.out HJW.out HP3.out HK2.out hk3)
        have c0 := cell_at HF3.out.1 0 _ rfl
        have c1 := cell_at HF3.out.1 1 _ rfl
        have c2 := cell_at HF3.out.1 2 _ rfl
        have c3 := cell_at HF3.out.1 3 _ rfl
        have c4 := cell_at HF3.out.1 4 _ rfl
        have c5 := cell_at HF3.out.1 5 _ rfl
        have f0 := frozen_at HF3.out.1 0
        have f1 := frozen_at HF3.out.1 1
        have f2 := frozen_at HF3.out.1 2
        have f3 := frozen_at HF3.out.1 3
        have f4 := frozen_at HF3.out.1 4
        have f5 := frozen_at HF3.out.1 5
        have d0 := cell_at HF3.out.2.1 0 _ rfl
        have d1 := cell_at HF3.out.2.1 1 _ rfl
        have d2 := cell_at HF3.out.2.1 2 _ rfl
        have d3 := cell_at HF3.out.2.1 3 _ rfl
        have d4 := cell_at HF3.out.2.1 4 _ rfl
        have d5 := cell_at HF3.out.2.1 5 _ rfl
        have g0 := frozen_at HF3.out.2.1 0
        have g1 := frozen_at HF3.out.2.1 1
        have g2 := frozen_at HF3.out.2.1 2
        have g3 := frozen_at HF3.out.2.1 3
        have g4 := frozen_at HF3.out.2.1 4
        have g5 := frozen_at HF3.out.2.1 5
        have hls : sv.toList = s := by rw [← HSv.out, ByteArray.toList_eq]
        have hos : ov ≠ sv → (ov.toList == s) = false := fun hn => by
          rw [← hls]
          simp only [beq_eq_false_iff_ne, ne_eq]
          intro e
          apply hn
          rw [ByteArray.toList_eq, ByteArray.toList_eq] at e
          exact ByteArray.ext (Array.ext' e)
        clear hk3
        by_cases ho : ov = sv
        · subst ho
          by_cases hse : s = []
          · have HN : Hid (∀ q, QrOk q → qrText q ≠ s) := Lib.hid (fun q hq he => qrText_iff.2 hq (he.trans hse))
            have HF := Lib.hid (set6_fin (.int .i64 0) (.int .i64 0) (.int .i64 0) (.int .i64 0) (.int .i64 0) (.slice none 0 0) HF3.out.1 HF3.out.2.2.2)
            have hse2 : ov.toList = [] := by rw [hls, hse]
            clear hls hos
            go_wp2_with fail
            exact bodyPost_cell2 (p := 2) (u := 3) (ty := 46) (g := w.heap.size) (by kernel_rfl) rfl HF.out.1 Tryz.underlying46 rfl (by kernel_rfl) rfl (.inr ⟨HN.out, rfl, HF.out.2⟩)
          · have HY := Lib.hid (HOe.out.1 rfl)
            have HYo : Hid (QrOk ⟨2, ⟨(x1, y1), (x2, y2)⟩, []⟩) := Lib.hid (qrText_iff.1 (by rw [HY.out]; exact hse))
            have HD : Hid ((⟨2, ⟨(x1, y1), (x2, y2)⟩, []⟩ : Qr) = qrOf 2 (qrPts ⟨2, ⟨(x1, y1), (x2, y2)⟩, []⟩)) := Lib.hid (docQ_other (k := 2) (by simp) HSk.out HRs.out HYo.out HY.out).1
            have HF := Lib.hid (set6_fin (.int .i64 2) (.int .i64 x1) (.int .i64 y1) (.int .i64 x2) (.int .i64 y2) (.slice none 0 0) HF3.out.1 HF3.out.2.2.2)
            have HPf := Lib.hid (pts6 (w := w) (n := w1.heap.size + 1) (.int .i64 2) (.int .i64 x1) (.int .i64 y1) (.int .i64 x2) (.int .i64 y2) (.slice none 0 0) (by omega) HF3.out.2.2.1)
            have hse2 : ov.toList.isEmpty = false := by rw [hls]; simpa using hse
            clear hls hos
            go_wp2_with fail
            exact bodyPost_cell2 (p := 2) (u := 3) (ty := 46) (g := w.heap.size) (by kernel_rfl) rfl HF.out.1 Tryz.underlying46 rfl (by kernel_rfl) rfl (rq_yes HYo.out HY.out HD.out rfl HPf.out HF.out.2)
        · have HN : Hid (∀ q, QrOk q → qrText q ≠ s) := Lib.hid (fun q hq he => ho (HOe.out.2 (docQ_other (k := 2) (by simp) HSk.out HRs.out hq he).2))
          have HF := Lib.hid (set6_fin (.int .i64 0) (.int .i64 0) (.int .i64 0) (.int .i64 0) (.int .i64 0) (.slice none 0 0) HF3.out.1 HF3.out.2.2.2)
          have hos2 : (ov.toList == sv.toList) = false := by rw [hls]; exact hos ho
          clear hls hos
          go_wp2_with fail
          exact bodyPost_cell2 (p := 2) (u := 3) (ty := 46) (g := w.heap.size) (by kernel_rfl) rfl HF.out.1 Tryz.underlying46 rfl (by kernel_rfl) rfl (.inr ⟨HN.out, rfl, HF.out.2⟩)
      | cons o r =>
        simp only [List.length_cons] at *
        have n1 : ((r.length : Int) + 1 + 1 + 1 == 1) = false := by simp; omega
        have n2 : ((r.length : Int) + 1 + 1 + 1 == 2) = false := by simp; omega
        have HBW : Hid (Blk6 (w2.setCell ⟨w1.heap.size, 0, none⟩ (.int .i64 2)) w1.heap.size 46 (.int .i64 2) (.int .i64 0) (.int .i64 0) (.int .i64 0) (.int .i64 0) (.slice none 0 0)) := Lib.hid (heap_setCell_same _ w1.heap.size 0 _ 46 (.int .i64 2) B5.out)
        have HJW : Hid (Kept (Just w1.heap.size) w2 (w2.setCell ⟨w1.heap.size, 0, none⟩ (.int .i64 2))) := Lib.hid (kept1 _ w1.heap.size 0 (.int .i64 2))
        have HP3 : Hid (PtsAt (w2.setCell ⟨w1.heap.size, 0, none⟩ (.int .i64 2)) (.slice none 0 0) [] (From (w1.heap.size + 1))) := Lib.hid (PtsAt.nils _ _)
        have HOc := HQ (w2.setCell ⟨w1.heap.size, 0, none⟩ (.int .i64 2)) 2 0 0 0 0 (.slice none 0 0) [] _ HP3.out (by simp)
        obtain ⟨ov, hov⟩ : ∃ x, (⟨(qrText ⟨2, ⟨(0, 0), (0, 0)⟩, []⟩).toArray⟩ : ByteArray) = x := ⟨_, rfl⟩
        rw [hov] at HOc
        have HOe : Hid (ov = sv ↔ qrText ⟨2, ⟨(0, 0), (0, 0)⟩, []⟩ = s) := Lib.hid (by
          rw [← hov, ← HSv.out]
          exact ⟨fun h => mk_inj h, fun h => by rw [h]⟩)
        clear hov HQ
        go_wp2_with fail
        refine HOc.out.mono ?_
        rintro e w3 ⟨rfl, hk3⟩
        have HF3 := Lib.hid (rq_fin hgl B2.out HBW.out HJW.out HP3.out HK2.out hk3)
        have c0 := cell_at HF3.out.1 0 _ rfl
        have c1 := cell_at HF3.out.1 1 _ rfl
        have c2 := cell_at HF3.out.1 2 _ rfl
        have c3 := cell_at HF3.out.1 3 _ rfl
        have c4 := cell_at HF3.out.1 4 _ rfl
        have c5 := cell_at HF3.out.1 5 _ rfl
        have f0 := frozen_at HF3.out.1 0
        have f1 := frozen_at HF3.out.1 1
        have f2 := frozen_at HF3.out.1 2
        have f3 := frozen_at HF3.out.1 3
        have f4 := frozen_at HF3.out.1 4
        have f5 := frozen_at HF3.out.1 5
        have d0 := cell_at HF3.out.2.1 0 _ rfl
        have d1 := cell_at HF3.out.2.1 1 _ rfl
        have d2 := cell_at HF3.out.2.1 2 _ rfl
        have d3 := cell_at HF3.out.2.1 3 _ rfl
        have d4 := cell_at HF3.out.2.1 4 _ rfl
        have d5 := cell_at HF3.out.2.1 5 _ rfl
        have g0 := frozen_at HF3.out.2.1 0
        have g1 := frozen_at HF3.out.2.1 1
        have g2 := frozen_at HF3.out.2.1 2
        have g3 := frozen_at HF3.out.2.1 3
        have g4 := frozen_at HF3.out.2.1 4
        have g5 := frozen_at HF3.out.2.1 5
        have hls : sv.toList = s := by rw [← HSv.out, ByteArray.toList_eq]
        have hos : ov ≠ sv → (ov.toList == s) = false := fun hn => by
          rw [← hls]
          simp only [beq_eq_false_iff_ne, ne_eq]
          intro e
          apply hn
          rw [ByteArray.toList_eq, ByteArray.toList_eq] at e
          exact ByteArray.ext (Array.ext' e)
        clear hk3
        by_cases ho : ov = sv
        · subst ho
          by_cases hse : s = []
          · have HN : Hid (∀ q, QrOk q → qrText q ≠ s) := Lib.hid (fun q hq he => qrText_iff.2 hq (he.trans hse))
            have HF := Lib.hid (set6_fin (.int .i64 0) (.int .i64 0) (.int .i64 0) (.int .i64 0) (.int .i64 0) (.slice none 0 0) HF3.out.1 HF3.out.2.2.2)
            have hse2 : ov.toList = [] := by rw [hls, hse]
            clear hls hos
            go_wp2_with fail
            exact bodyPost_cell2 (p := 2) (u := 3) (ty := 46) (g := w.heap.size) (by kernel_rfl) rfl HF.out.1 Tryz.underlying46 rfl (by kernel_rfl) rfl (.inr ⟨HN.out, rfl, HF.out.2⟩)
          · have HY := Lib.hid (HOe.out.1 rfl)
            have HYo : Hid (QrOk ⟨2, ⟨(0, 0), (0, 0)⟩, []⟩) := Lib.hid (qrText_iff.1 (by rw [HY.out]; exact hse))
            have HD : Hid ((⟨2, ⟨(0, 0), (0, 0)⟩, []⟩ : Qr) = qrOf 2 (qrPts ⟨2, ⟨(0, 0), (0, 0)⟩, []⟩)) := Lib.hid (docQ_other (k := 2) (by simp) HSk.out HRs.out HYo.out HY.out).1
            have HF := Lib.hid (set6_fin (.int .i64 2) (.int .i64 0) (.int .i64 0) (.int .i64 0) (.int .i64 0) (.slice none 0 0) HF3.out.1 HF3.out.2.2.2)
            have HPf := Lib.hid (pts6 (w := w) (n := w1.heap.size + 1) (.int .i64 2) (.int .i64 0) (.int .i64 0) (.int .i64 0) (.int .i64 0) (.slice none 0 0) (by omega) HF3.out.2.2.1)
            have hse2 : ov.toList.isEmpty = false := by rw [hls]; simpa using hse
            clear hls hos
            go_wp2_with fail
            exact bodyPost_cell2 (p := 2) (u := 3) (ty := 46) (g := w.heap.size) (by kernel_rfl) rfl HF.out.1 Tryz.underlying46 rfl (by kernel_rfl) rfl (rq_yes HYo.out HY.out HD.out rfl HPf.out HF.out.2)
        · have HN : Hid (∀ q, QrOk q → qrText q ≠ s) := Lib.hid (fun q hq he => ho (HOe.out.2 (docQ_other (k := 2) (by simp) HSk.out HRs.out hq he).2))
          have HF := Lib.hid (set6_fin (.int .i64 0) (.int .i64 0) (.int .i64 0) (.int .i64 0) (.int .i64 0) (.slice none 0 0) HF3.out.1 HF3.out.2.2.2)
          have hos2 : (ov.toList == sv.toList) = false := by rw [hls]; exact hos ho
          clear hls hos
          go_wp2_with fail
          exact bodyPost_cell2 (p := 2) (u := 3) (ty := 46) (g := w.heap.size) (by kernel_rfl) rfl HF.out.1 Tryz.underlying46 rfl (by kernel_rfl) rfl (.inr ⟨HN.out, rfl, HF.out.2⟩)
  by_cases hh3 : h = wHas
  · subst hh3
    have hv1 : hv = ⟨#[104, 97, 115]⟩ := HHv.out.symm
    subst hv1
    have HSk : Hid (sp s = qrWord 3 :: t) := Lib.hid HS.out
    cases r with
    | nil =>
      simp only [List.length_nil, Nat.zero_add] at *
      obtain ⟨x1, y1⟩ := p
      obtain ⟨pb, po, rfl, -, hpb, hF, e0, e1⟩ := HP.out.at (i := 0) (p := (x1, y1)) rfl
      have hpg : pb ≠ w1.heap.size := by
        have h1 : w1.heap.size + 1 ≤ pb := hF
        omega
      simp only [Nat.zero_mul, Nat.add_zero] at e0 e1
      have HBW : Hid (Blk6 (((w2.setCell ⟨w1.heap.size, 0, none⟩ (.int .i64 3)).setCell ⟨w1.heap.size, 1, none⟩ (.int .i64 x1)).setCell ⟨w1.heap.size, 2, none⟩ (.int .i64 y1)) w1.heap.size 46 (.int .i64 3) (.int .i64 x1) (.int .i64 y1) (.int .i64 0) (.int .i64 0) (.slice none 0 0)) := Lib.hid (heap_setCell_same _ w1.heap.size 2 _ 46 (.int .i64 y1) (heap_setCell_same _ w1.heap.size 1 _ 46 (.int .i64 x1) (heap_setCell_same _ w1.heap.size 0 _ 46 (.int .i64 3) B5.out)))
      have HJW : Hid (Kept (Just w1.heap.size) w2 (((w2.setCell ⟨w1.heap.size, 0, none⟩ (.int .i64 3)).setCell ⟨w1.heap.size, 1, none⟩ (.int .i64 x1)).setCell ⟨w1.heap.size, 2, none⟩ (.int .i64 y1))) := Lib.hid (((kept1 _ w1.heap.size 0 (.int .i64 3)).trans' (kept1 _ w1.heap.size 1 (.int .i64 x1))).trans' (kept1 _ w1.heap.size 2 (.int .i64 y1)))
      have HP3 : Hid (PtsAt (((w2.setCell ⟨w1.heap.size, 0, none⟩ (.int .i64 3)).setCell ⟨w1.heap.size, 1, none⟩ (.int .i64 x1)).setCell ⟨w1.heap.size, 2, none⟩ (.int .i64 y1)) (.slice none 0 0) [] (From (w1.heap.size + 1))) := Lib.hid (PtsAt.nils _ _)
      have HOc := HQ (((w2.setCell ⟨w1.heap.size, 0, none⟩ (.int .i64 3)).setCell ⟨w1.heap.size, 1, none⟩ (.int .i64 x1)).setCell ⟨w1.heap.size, 2, none⟩ (.int .i64 y1)) 3 x1 y1 0 0 (.slice none 0 0) [] _ HP3.out (by simp)
      obtain ⟨ov, hov⟩ : ∃ x, (⟨(qrText ⟨3, ⟨(x1, y1), (0, 0)⟩, []⟩).toArray⟩ : ByteArray) = x := ⟨_, rfl⟩
      rw [hov] at HOc
      have HOe : Hid (ov = sv ↔ qrText ⟨3, ⟨(x1, y1), (0, 0)⟩, []⟩ = s) := Lib.hid (by
        rw [← hov, ← HSv.out]
        exact ⟨fun h => mk_inj h, fun h => by rw [h]⟩)
      clear hov HQ
      go_wp2_with fail
      refine HOc.out.mono ?_
      rintro e w3 ⟨rfl, hk3⟩
      have HF3 := Lib.hid (rq_fin hgl B2.out HBW.out HJW.out HP3.out HK2.out hk3)
      have c0 := cell_at HF3.out.1 0 _ rfl
      have c1 := cell_at HF3.out.1 1 _ rfl
      have c2 := cell_at HF3.out.1 2 _ rfl
      have c3 := cell_at HF3.out.1 3 _ rfl
      have c4 := cell_at HF3.out.1 4 _ rfl
      have c5 := cell_at HF3.out.1 5 _ rfl
      have f0 := frozen_at HF3.out.1 0
      have f1 := frozen_at HF3.out.1 1
      have f2 := frozen_at HF3.out.1 2
      have f3 := frozen_at HF3.out.1 3
      have f4 := frozen_at HF3.out.1 4
      have f5 := frozen_at HF3.out.1 5
      have d0 := cell_at HF3.out.2.1 0 _ rfl
      have d1 := cell_at HF3.out.2.1 1 _ rfl
      have d2 := cell_at HF3.out.2.1 2 _ rfl
      have d3 := cell_at HF3.out.2.1 3 _ rfl
      have d4 := cell_at HF3.out.2.1 4 _ rfl
      have d5 := cell_at HF3.out.2.1 5 _ rfl
      have g0 := frozen_at HF3.out.2.1 0
      have g1 := frozen_at HF3.out.2.1 1
      have g2 := frozen_at HF3.out.2.1 2
      have g3 := frozen_at HF3.out.2.1 3
      have g4 := frozen_at HF3.out.2.1 4
      have g5 := frozen_at HF3.out.2.1 5
      have hls : sv.toList = s := by rw [← HSv.out, ByteArray.toList_eq]
      have hos : ov ≠ sv → (ov.toList == s) = false := fun hn => by
        rw [← hls]
        simp only [beq_eq_false_iff_ne, ne_eq]
        intro e
        apply hn
        rw [ByteArray.toList_eq, ByteArray.toList_eq] at e
        exact ByteArray.ext (Array.ext' e)
      clear hk3
      by_cases ho : ov = sv
      · subst ho
        by_cases hse : s = []
        · have HN : Hid (∀ q, QrOk q → qrText q ≠ s) := Lib.hid (fun q hq he => qrText_iff.2 hq (he.trans hse))
          have HF := Lib.hid (set6_fin (.int .i64 0) (.int .i64 0) (.int .i64 0) (.int .i64 0) (.int .i64 0) (.slice none 0 0) HF3.out.1 HF3.out.2.2.2)
          have hse2 : ov.toList = [] := by rw [hls, hse]
          clear hls hos
          go_wp2_with fail
          exact bodyPost_cell2 (p := 2) (u := 3) (ty := 46) (g := w.heap.size) (by kernel_rfl) rfl HF.out.1 Tryz.underlying46 rfl (by kernel_rfl) rfl (.inr ⟨HN.out, rfl, HF.out.2⟩)
        · have HY := Lib.hid (HOe.out.1 rfl)
          have HYo : Hid (QrOk ⟨3, ⟨(x1, y1), (0, 0)⟩, []⟩) := Lib.hid (qrText_iff.1 (by rw [HY.out]; exact hse))
          have HD : Hid ((⟨3, ⟨(x1, y1), (0, 0)⟩, []⟩ : Qr) = qrOf 3 (qrPts ⟨3, ⟨(x1, y1), (0, 0)⟩, []⟩)) := Lib.hid (docQ_other (k := 3) (by simp) HSk.out HRs.out HYo.out HY.out).1
          have HF := Lib.hid (set6_fin (.int .i64 3) (.int .i64 x1) (.int .i64 y1) (.int .i64 0) (.int .i64 0) (.slice none 0 0) HF3.out.1 HF3.out.2.2.2)
          have HPf := Lib.hid (pts6 (w := w) (n := w1.heap.size + 1) (.int .i64 3) (.int .i64 x1) (.int .i64 y1) (.int .i64 0) (.int .i64 0) (.slice none 0 0) (by omega) HF3.out.2.2.1)
          have hse2 : ov.toList.isEmpty = false := by rw [hls]; simpa using hse
          clear hls hos
          go_wp2_with fail
          exact bodyPost_cell2 (p := 2) (u := 3) (ty := 46) (g := w.heap.size) (by kernel_rfl) rfl HF.out.1 Tryz.underlying46 rfl (by kernel_rfl) rfl (rq_yes HYo.out HY.out HD.out rfl HPf.out HF.out.2)
      · have HN : Hid (∀ q, QrOk q → qrText q ≠ s) := Lib.hid (fun q hq he => ho (HOe.out.2 (docQ_other (k := 3) (by simp) HSk.out HRs.out hq he).2))
        have HF := Lib.hid (set6_fin (.int .i64 0) (.int .i64 0) (.int .i64 0) (.int .i64 0) (.int .i64 0) (.slice none 0 0) HF3.out.1 HF3.out.2.2.2)
        have hos2 : (ov.toList == sv.toList) = false := by rw [hls]; exact hos ho
        clear hls hos
        go_wp2_with fail
        exact bodyPost_cell2 (p := 2) (u := 3) (ty := 46) (g := w.heap.size) (by kernel_rfl) rfl HF.out.1 Tryz.underlying46 rfl (by kernel_rfl) rfl (.inr ⟨HN.out, rfl, HF.out.2⟩)
    | cons q r =>
      cases r with
      | nil =>
        simp only [List.length_nil, List.length_cons, Nat.zero_add, Nat.reduceAdd] at *
        obtain ⟨x1, y1⟩ := p
        obtain ⟨x2, y2⟩ := q
        obtain ⟨pb, po, rfl, -, hpb, hF, e0, e1⟩ := HP.out.at (i := 0) (p := (x1, y1)) rfl
        have hpg : pb ≠ w1.heap.size := by
          have h1 : w1.heap.size + 1 ≤ pb := hF
          omega
        obtain ⟨_, _, e', -, -, -, e2, e3⟩ := HP.out.at (i := 1) (p := (x2, y2)) rfl
        simp only [Option.some.injEq, Addr.mk.injEq, and_true] at e'
        obtain ⟨rfl, rfl⟩ := e'
        simp only [Nat.zero_mul, Nat.add_zero, Nat.one_mul] at e0 e1 e2 e3
        have HBW : Hid (Blk6 ((((((w2.setCell ⟨w1.heap.size, 0, none⟩ (.int .i64 3)).setCell ⟨w1.heap.size, 1, none⟩ (.int .i64 x1)).setCell ⟨w1.heap.size, 2, none⟩ (.int .i64 y1)).setCell ⟨w1.heap.size, 3, none⟩ (.int .i64 x2)).setCell ⟨w1.heap.size, 4, none⟩ (.int .i64 y2)).drew) w1.heap.size 46 (.int .i64 3) (.int .i64 x1) (.int .i64 y1) (.int .i64 x2) (.int .i64 y2) (.slice none 0 0)) := Lib.hid (heap_setCell_same _ w1.heap.size 4 _ 46 (.int .i64 y2) (heap_setCell_same _ w1.heap.size 3 _ 46 (.int .i64 x2) (heap_setCell_same _ w1.heap.size 2 _ 46 (.int .i64 y1) (heap_setCell_same _ w1.heap.size 1 _ 46 (.int .i64 x1) (heap_setCell_same _ w1.heap.size 0 _ 46 (.int .i64 3) B5.out)))))
        have HJW : Hid (Kept (Just w1.heap.size) w2 ((((((w2.setCell ⟨w1.heap.size, 0, none⟩ (.int .i64 3)).setCell ⟨w1.heap.size, 1, none⟩ (.int .i64 x1)).setCell ⟨w1.heap.size, 2, none⟩ (.int .i64 y1)).setCell ⟨w1.heap.size, 3, none⟩ (.int .i64 x2)).setCell ⟨w1.heap.size, 4, none⟩ (.int .i64 y2)).drew)) := Lib.hid (((((kept1 _ w1.heap.size 0 (.int .i64 3)).trans' (kept1 _ w1.heap.size 1 (.int .i64 x1))).trans' (kept1 _ w1.heap.size 2 (.int .i64 y1))).trans' (kept1 _ w1.heap.size 3 (.int .i64 x2))).trans' (kept1 _ w1.heap.size 4 (.int .i64 y2))).trans' (Kept.drew _ _)
        have HP3 : Hid (PtsAt ((((((w2.setCell ⟨w1.heap.size, 0, none⟩ (.int .i64 3)).setCell ⟨w1.heap.size, 1, none⟩ (.int .i64 x1)).setCell ⟨w1.heap.size, 2, none⟩ (.int .i64 y1)).setCell ⟨w1.heap.size, 3, none⟩ (.int .i64 x2)).setCell ⟨w1.heap.size, 4, none⟩ (.int .i64 y2)).drew) (.slice none 0 0) [] (From (w1.heap.size + 1))) := Lib.hid (PtsAt.nils _ _)
        have HOc := HQ ((((((w2.setCell ⟨w1.heap.size, 0, none⟩ (.int .i64 3)).setCell ⟨w1.heap.size, 1, none⟩ (.int .i64 x1)).setCell ⟨w1.heap.size, 2, none⟩ (.int .i64 y1)).setCell ⟨w1.heap.size, 3, none⟩ (.int .i64 x2)).setCell ⟨w1.heap.size, 4, none⟩ (.int .i64 y2)).drew) 3 x1 y1 x2 y2 (.slice none 0 0) [] _ HP3.out (by simp)
        obtain ⟨ov, hov⟩ : ∃ x, (⟨(qrText ⟨3, ⟨(x1, y1), (x2, y2)⟩, []⟩).toArray⟩ : ByteArray) = x := ⟨_, rfl⟩
        rw [hov] at HOc
        have HOe : Hid (ov = sv ↔ qrText ⟨3, ⟨(x1, y1), (x2, y2)⟩, []⟩ = s) := Lib.hid (by
          rw [← hov, ← HSv.out]
          exact ⟨fun h => mk_inj h, fun h => by rw [h]⟩)
        clear hov HQ
        go_wp2_with fail
        go_region
        go_wp2_with fail
        refine HOc.out.mono ?_
        rintro e w3 ⟨rfl, hk3⟩
        have HF3 := Lib.hid (rq_fin hgl B2.out HBW.out HJW.out HP3.out HK2.out hk3)
        have c0 := cell_at HF3.out.1 0 _ rfl
        have c1 := cell_at HF3.out.1 1 _ rfl
        have c2 := cell_at HF3.out.1 2 _ rfl
        have c3 := cell_at HF3.out.1 3 _ rfl
        have c4 := cell_at HF3.out.1 4 _ rfl
        have c5 := cell_at HF3.out.1 5 _ rfl
        have f0 := frozen_at HF3.out.1 0
        have f1 := frozen_at HF3.out.1 1
        have f2 := frozen_at HF3.out.1 2
        have f3 := frozen_at HF3.out.1 3
        have f4 := frozen_at HF3.out.1 4
        have f5 := frozen_at HF3.out.1 5
        have d0 := cell_at HF3.out.2.1 0 _ rfl
        have d1 := cell_at HF3.out.2.1 1 _ rfl
        have d2 := cell_at HF3.out.2.1 2 _ rfl
        have d3 := cell_at HF3.out.2.1 3 _ rfl
        have d4 := cell_at HF3.out.2.1 4 _ rfl
        have d5 := cell_at HF3.out.2.1 5 _ rfl
        have g0 := frozen_at HF3.out.2.1 0
        have g1 := frozen_at HF3.out.2.1 1
        have g2 := frozen_at HF3.out.2.1 2
        have g3 := frozen_at HF3.out.2.1 3
        have g4 := frozen_at HF3.out.2.1 4
        have g5 := frozen_at HF3.out.2.1 5
        have hls : sv.toList = s := by rw [← HSv.out, ByteArray.toList_eq]
        have hos : ov ≠ sv → (ov.toList == s) = false := fun hn => by
          rw [← hls]
          simp only [beq_eq_false_iff_ne, ne_eq]
          intro e
          apply hn
          rw [ByteArray.toList_eq, ByteArray.toList_eq] at e
          exact ByteArray.ext (Array.ext' e)
        clear hk3
        by_cases ho : ov = sv
        · subst ho
          by_cases hse : s = []
          · have HN : Hid (∀ q, QrOk q → qrText q ≠ s) := Lib.hid (fun q hq he => qrText_iff.2 hq (he.trans hse))
            have HF := Lib.hid (set6_fin (.int .i64 0) (.int .i64 0) (.int .i64 0) (.int .i64 0) (.int .i64 0) (.slice none 0 0) HF3.out.1 HF3.out.2.2.2)
            have hse2 : ov.toList = [] := by rw [hls, hse]
            clear hls hos
            go_wp2_with fail
            exact bodyPost_cell2 (p := 2) (u := 3) (ty := 46) (g := w.heap.size) (by kernel_rfl) rfl HF.out.1 Tryz.underlying46 rfl (by kernel_rfl) rfl (.inr ⟨HN.out, rfl, HF.out.2⟩)
          · have HY := Lib.hid (HOe.out.1 rfl)
            have HYo : Hid (QrOk ⟨3, ⟨(x1, y1), (x2, y2)⟩, []⟩) := Lib.hid (qrText_iff.1 (by rw [HY.out]; exact hse))
            have HD : Hid ((⟨3, ⟨(x1, y1), (x2, y2)⟩, []⟩ : Qr) = qrOf 3 (qrPts ⟨3, ⟨(x1, y1), (x2, y2)⟩, []⟩)) := Lib.hid (docQ_other (k := 3) (by simp) HSk.out HRs.out HYo.out HY.out).1
            have HF := Lib.hid (set6_fin (.int .i64 3) (.int .i64 x1) (.int .i64 y1) (.int .i64 x2) (.int .i64 y2) (.slice none 0 0) HF3.out.1 HF3.out.2.2.2)
            have HPf := Lib.hid (pts6 (w := w) (n := w1.heap.size + 1) (.int .i64 3) (.int .i64 x1) (.int .i64 y1) (.int .i64 x2) (.int .i64 y2) (.slice none 0 0) (by omega) HF3.out.2.2.1)
            have hse2 : ov.toList.isEmpty = false := by rw [hls]; simpa using hse
            clear hls hos
            go_wp2_with fail
            exact bodyPost_cell2 (p := 2) (u := 3) (ty := 46) (g := w.heap.size) (by kernel_rfl) rfl HF.out.1 Tryz.underlying46 rfl (by kernel_rfl) rfl (rq_yes HYo.out HY.out HD.out rfl HPf.out HF.out.2)
        · have HN : Hid (∀ q, QrOk q → qrText q ≠ s) := Lib.hid (fun q hq he => ho (HOe.out.2 (docQ_other (k := 3) (by simp) HSk.out HRs.out hq he).2))
          have HF := Lib.hid (set6_fin (.int .i64 0) (.int .i64 0) (.int .i64 0) (.int .i64 0) (.int .i64 0) (.slice none 0 0) HF3.out.1 HF3.out.2.2.2)
          have hos2 : (ov.toList == sv.toList) = false := by rw [hls]; exact hos ho
          clear hls hos
          go_wp2_with fail
          exact bodyPost_cell2 (p := 2) (u := 3) (ty := 46) (g := w.heap.size) (by kernel_rfl) rfl HF.out.1 Tryz.underlying46 rfl (by kernel_rfl) rfl (.inr ⟨HN.out, rfl, HF.out.2⟩)
      | cons o r =>
        simp only [List.length_cons] at *
        have n1 : ((r.length : Int) + 1 + 1 + 1 == 1) = false := by simp; omega
        have n2 : ((r.length : Int) + 1 + 1 + 1 == 2) = false := by simp; omega
        have HBW : Hid (Blk6 (w2.setCell ⟨w1.heap.size, 0, none⟩ (.int .i64 3)) w1.heap.size 46 (.int .i64 3) (.int .i64 0) (.int .i64 0) (.int .i64 0) (.int .i64 0) (.slice none 0 0)) := Lib.hid (heap_setCell_same _ w1.heap.size 0 _ 46 (.int .i64 3) B5.out)
        have HJW : Hid (Kept (Just w1.heap.size) w2 (w2.setCell ⟨w1.heap.size, 0, none⟩ (.int .i64 3))) := Lib.hid (kept1 _ w1.heap.size 0 (.int .i64 3))
        have HP3 : Hid (PtsAt (w2.setCell ⟨w1.heap.size, 0, none⟩ (.int .i64 3)) (.slice none 0 0) [] (From (w1.heap.size + 1))) := Lib.hid (PtsAt.nils _ _)
        have HOc := HQ (w2.setCell ⟨w1.heap.size, 0, none⟩ (.int .i64 3)) 3 0 0 0 0 (.slice none 0 0) [] _ HP3.out (by simp)
        obtain ⟨ov, hov⟩ : ∃ x, (⟨(qrText ⟨3, ⟨(0, 0), (0, 0)⟩, []⟩).toArray⟩ : ByteArray) = x := ⟨_, rfl⟩
        rw [hov] at HOc
        have HOe : Hid (ov = sv ↔ qrText ⟨3, ⟨(0, 0), (0, 0)⟩, []⟩ = s) := Lib.hid (by
          rw [← hov, ← HSv.out]
          exact ⟨fun h => mk_inj h, fun h => by rw [h]⟩)
        clear hov HQ
        go_wp2_with fail
        refine HOc.out.mono ?_
        rintro e w3 ⟨rfl, hk3⟩
        have HF3 := Lib.hid (rq_fin hgl B2.out HBW.out HJW.out HP3.out HK2.out hk3)
        have c0 := cell_at HF3.out.1 0 _ rfl
        have c1 := cell_at HF3.out.1 1 _ rfl
        have c2 := cell_at HF3.out.1 2 _ rfl
        have c3 := cell_at HF3.out.1 3 _ rfl
        have c4 := cell_at HF3.out.1 4 _ rfl
        have c5 := cell_at HF3.out.1 5 _ rfl
        have f0 := frozen_at HF3.out.1 0
        have f1 := frozen_at HF3.out.1 1
        have f2 := frozen_at HF3.out.1 2
        have f3 := frozen_at HF3.out.1 3
        have f4 := frozen_at HF3.out.1 4
        have f5 := frozen_at HF3.out.1 5
        have d0 := cell_at HF3.out.2.1 0 _ rfl
        have d1 := cell_at HF3.out.2.1 1 _ rfl
        have d2 := cell_at HF3.out.2.1 2 _ rfl
        have d3 := cell_at HF3.out.2.1 3 _ rfl
        have d4 := cell_at HF3.out.2.1 4 _ rfl
        have d5 := cell_at HF3.out.2.1 5 _ rfl
        have g0 := frozen_at HF3.out.2.1 0
        have g1 := frozen_at HF3.out.2.1 1
        have g2 := frozen_at HF3.out.2.1 2
        have g3 := frozen_at HF3.out.2.1 3
        have g4 := frozen_at HF3.out.2.1 4
        have g5 := frozen_at HF3.out.2.1 5
        have hls : sv.toList = s := by rw [← HSv.out, ByteArray.toList_eq]
        have hos : ov ≠ sv → (ov.toList == s) = false := fun hn => by
          rw [← hls]
          simp only [beq_eq_false_iff_ne, ne_eq]
          intro e
          apply hn
          rw [ByteArray.toList_eq, ByteArray.toList_eq] at e
          exact ByteArray.ext (Array.ext' e)
        clear hk3
        by_cases ho : ov = sv
        · subst ho
          by_cases hse : s = []
          · have HN : Hid (∀ q, QrOk q → qrText q ≠ s) := Lib.hid (fun q hq he => qrText_iff.2 hq (he.trans hse))
            have HF := Lib.hid (set6_fin (.int .i64 0) (.int .i64 0) (.int .i64 0) (.int .i64 0) (.int .i64 0) (.slice none 0 0) HF3.out.1 HF3.out.2.2.2)
            have hse2 : ov.toList = [] := by rw [hls, hse]
            clear hls hos
            go_wp2_with fail
            exact bodyPost_cell2 (p := 2) (u := 3) (ty := 46) (g := w.heap.size) (by kernel_rfl) rfl HF.out.1 Tryz.underlying46 rfl (by kernel_rfl) rfl (.inr ⟨HN.out, rfl, HF.out.2⟩)
          · have HY := Lib.hid (HOe.out.1 rfl)
            have HYo : Hid (QrOk ⟨3, ⟨(0, 0), (0, 0)⟩, []⟩) := Lib.hid (qrText_iff.1 (by rw [HY.out]; exact hse))
            have HD : Hid ((⟨3, ⟨(0, 0), (0, 0)⟩, []⟩ : Qr) = qrOf 3 (qrPts ⟨3, ⟨(0, 0), (0, 0)⟩, []⟩)) := Lib.hid (docQ_other (k := 3) (by simp) HSk.out HRs.out HYo.out HY.out).1
            have HF := Lib.hid (set6_fin (.int .i64 3) (.int .i64 0) (.int .i64 0) (.int .i64 0) (.int .i64 0) (.slice none 0 0) HF3.out.1 HF3.out.2.2.2)
            have HPf := Lib.hid (pts6 (w := w) (n := w1.heap.size + 1) (.int .i64 3) (.int .i64 0) (.int .i64 0) (.int .i64 0) (.int .i64 0) (.slice none 0 0) (by omega) HF3.out.2.2.1)
            have hse2 : ov.toList.isEmpty = false := by rw [hls]; simpa using hse
            clear hls hos
            go_wp2_with fail
            exact bodyPost_cell2 (p := 2) (u := 3) (ty := 46) (g := w.heap.size) (by kernel_rfl) rfl HF.out.1 Tryz.underlying46 rfl (by kernel_rfl) rfl (rq_yes HYo.out HY.out HD.out rfl HPf.out HF.out.2)
        · have HN : Hid (∀ q, QrOk q → qrText q ≠ s) := Lib.hid (fun q hq he => ho (HOe.out.2 (docQ_other (k := 3) (by simp) HSk.out HRs.out hq he).2))
          have HF := Lib.hid (set6_fin (.int .i64 0) (.int .i64 0) (.int .i64 0) (.int .i64 0) (.int .i64 0) (.slice none 0 0) HF3.out.1 HF3.out.2.2.2)
          have hos2 : (ov.toList == sv.toList) = false := by rw [hls]; exact hos ho
          clear hls hos
          go_wp2_with fail
          exact bodyPost_cell2 (p := 2) (u := 3) (ty := 46) (g := w.heap.size) (by kernel_rfl) rfl HF.out.1 Tryz.underlying46 rfl (by kernel_rfl) rfl (.inr ⟨HN.out, rfl, HF.out.2⟩)
  by_cases hh4 : h = wCross
  · subst hh4
    have hv1 : hv = ⟨#[99, 114, 111, 115, 115]⟩ := HHv.out.symm
    subst hv1
    have HSk : Hid (sp s = qrWord 4 :: t) := Lib.hid HS.out
    have HBW : Hid (Blk6 ((w2.setCell ⟨w1.heap.size, 0, none⟩ (.int .i64 4)).setCell ⟨w1.heap.size, 5, none⟩ (.slice ua (r.length + 1) uc)) w1.heap.size 46 (.int .i64 4) (.int .i64 0) (.int .i64 0) (.int .i64 0) (.int .i64 0) (.slice ua (r.length + 1) uc)) := Lib.hid (heap_setCell_same _ w1.heap.size 5 _ 46 (.slice ua (r.length + 1) uc) (heap_setCell_same _ w1.heap.size 0 _ 46 (.int .i64 4) B5.out))
    have HJW : Hid (Kept (Just w1.heap.size) w2 ((w2.setCell ⟨w1.heap.size, 0, none⟩ (.int .i64 4)).setCell ⟨w1.heap.size, 5, none⟩ (.slice ua (r.length + 1) uc))) := Lib.hid ((kept1 _ w1.heap.size 0 (.int .i64 4)).trans' (kept1 _ w1.heap.size 5 (.slice ua (r.length + 1) uc)))
    have HP3 := Lib.hid (HP.out.kept HJW.out (fun j (h1 : w1.heap.size + 1 ≤ j) (h2 : j = w1.heap.size) => by omega))
    have HOc := HQ ((w2.setCell ⟨w1.heap.size, 0, none⟩ (.int .i64 4)).setCell ⟨w1.heap.size, 5, none⟩ (.slice ua (r.length + 1) uc)) 4 0 0 0 0 (.slice ua (r.length + 1) uc) (p :: r) _ HP3.out hll2
    obtain ⟨ov, hov⟩ : ∃ x, (⟨(qrText ⟨4, ⟨(0, 0), (0, 0)⟩, p :: r⟩).toArray⟩ : ByteArray) = x := ⟨_, rfl⟩
    rw [hov] at HOc
    have HOe : Hid (ov = sv ↔ qrText ⟨4, ⟨(0, 0), (0, 0)⟩, p :: r⟩ = s) := Lib.hid (by
      rw [← hov, ← HSv.out]
      exact ⟨fun h => mk_inj h, fun h => by rw [h]⟩)
    clear hov HQ
    go_wp2_with fail
    refine HOc.out.mono ?_
    rintro e w3 ⟨rfl, hk3⟩
    have HF3 := Lib.hid (rq_fin hgl B2.out HBW.out HJW.out HP3.out HK2.out hk3)
    have c0 := cell_at HF3.out.1 0 _ rfl
    have c1 := cell_at HF3.out.1 1 _ rfl
    have c2 := cell_at HF3.out.1 2 _ rfl
    have c3 := cell_at HF3.out.1 3 _ rfl
    have c4 := cell_at HF3.out.1 4 _ rfl
    have c5 := cell_at HF3.out.1 5 _ rfl
    have f0 := frozen_at HF3.out.1 0
    have f1 := frozen_at HF3.out.1 1
    have f2 := frozen_at HF3.out.1 2
    have f3 := frozen_at HF3.out.1 3
    have f4 := frozen_at HF3.out.1 4
    have f5 := frozen_at HF3.out.1 5
    have d0 := cell_at HF3.out.2.1 0 _ rfl
    have d1 := cell_at HF3.out.2.1 1 _ rfl
    have d2 := cell_at HF3.out.2.1 2 _ rfl
    have d3 := cell_at HF3.out.2.1 3 _ rfl
    have d4 := cell_at HF3.out.2.1 4 _ rfl
    have d5 := cell_at HF3.out.2.1 5 _ rfl
    have g0 := frozen_at HF3.out.2.1 0
    have g1 := frozen_at HF3.out.2.1 1
    have g2 := frozen_at HF3.out.2.1 2
    have g3 := frozen_at HF3.out.2.1 3
    have g4 := frozen_at HF3.out.2.1 4
    have g5 := frozen_at HF3.out.2.1 5
    have hls : sv.toList = s := by rw [← HSv.out, ByteArray.toList_eq]
    have hos : ov ≠ sv → (ov.toList == s) = false := fun hn => by
      rw [← hls]
      simp only [beq_eq_false_iff_ne, ne_eq]
      intro e
      apply hn
      rw [ByteArray.toList_eq, ByteArray.toList_eq] at e
      exact ByteArray.ext (Array.ext' e)
    clear hk3
    by_cases ho : ov = sv
    · subst ho
      by_cases hse : s = []
      · have HN : Hid (∀ q, QrOk q → qrText q ≠ s) := Lib.hid (fun q hq he => qrText_iff.2 hq (he.trans hse))
        have HF := Lib.hid (set6_fin (.int .i64 0) (.int .i64 0) (.int .i64 0) (.int .i64 0) (.int .i64 0) (.slice none 0 0) HF3.out.1 HF3.out.2.2.2)
        have hse2 : ov.toList = [] := by rw [hls, hse]
        clear hls hos
        go_wp2_with fail
        exact bodyPost_cell2 (p := 2) (u := 3) (ty := 46) (g := w.heap.size) (by kernel_rfl) rfl HF.out.1 Tryz.underlying46 rfl (by kernel_rfl) rfl (.inr ⟨HN.out, rfl, HF.out.2⟩)
      · have HY := Lib.hid (HOe.out.1 rfl)
        have HYo : Hid (QrOk ⟨4, ⟨(0, 0), (0, 0)⟩, p :: r⟩) := Lib.hid (qrText_iff.1 (by rw [HY.out]; exact hse))
        have HD : Hid ((⟨4, ⟨(0, 0), (0, 0)⟩, p :: r⟩ : Qr) = qrOf 4 (qrPts ⟨4, ⟨(0, 0), (0, 0)⟩, p :: r⟩)) := Lib.hid (docQ_other (k := 4) (by simp) HSk.out HRs.out HYo.out HY.out).1
        have HF := Lib.hid (set6_fin (.int .i64 4) (.int .i64 0) (.int .i64 0) (.int .i64 0) (.int .i64 0) (.slice ua (r.length + 1) uc) HF3.out.1 HF3.out.2.2.2)
        have HPf := Lib.hid (pts6 (w := w) (n := w1.heap.size + 1) (.int .i64 4) (.int .i64 0) (.int .i64 0) (.int .i64 0) (.int .i64 0) (.slice ua (r.length + 1) uc) (by omega) HF3.out.2.2.1)
        have hse2 : ov.toList.isEmpty = false := by rw [hls]; simpa using hse
        clear hls hos
        go_wp2_with fail
        exact bodyPost_cell2 (p := 2) (u := 3) (ty := 46) (g := w.heap.size) (by kernel_rfl) rfl HF.out.1 Tryz.underlying46 rfl (by kernel_rfl) rfl (rq_yes HYo.out HY.out HD.out rfl HPf.out HF.out.2)
    · have HN : Hid (∀ q, QrOk q → qrText q ≠ s) := Lib.hid (fun q hq he => ho (HOe.out.2 (docQ_other (k := 4) (by simp) HSk.out HRs.out hq he).2))
      have HF := Lib.hid (set6_fin (.int .i64 0) (.int .i64 0) (.int .i64 0) (.int .i64 0) (.int .i64 0) (.slice none 0 0) HF3.out.1 HF3.out.2.2.2)
      have hos2 : (ov.toList == sv.toList) = false := by rw [hls]; exact hos ho
      clear hls hos
      go_wp2_with fail
      exact bodyPost_cell2 (p := 2) (u := 3) (ty := 46) (g := w.heap.size) (by kernel_rfl) rfl HF.out.1 Tryz.underlying46 rfl (by kernel_rfl) rfl (.inr ⟨HN.out, rfl, HF.out.2⟩)
  have HNw := Lib.hid (qr_no_word HS.out hh1 hh2 hh3 hh4)
  have hvl : hv.toList = h := by rw [← HHv.out, ByteArray.toList_eq]
  have e1 : (h == [109, 101, 101, 116, 115]) = false := beq_eq_false_iff_ne.2 hh1
  have e2 : (h == [105, 110, 115, 105, 100, 101]) = false := beq_eq_false_iff_ne.2 hh2
  have e3 : (h == [104, 97, 115]) = false := beq_eq_false_iff_ne.2 hh3
  have e4 : (h == [99, 114, 111, 115, 115]) = false := beq_eq_false_iff_ne.2 hh4
  clear hh1 hh2 hh3 hh4
  cases r with
  | nil =>
    simp only [List.length_nil, Nat.zero_add] at *
    obtain ⟨x1, y1⟩ := p
    obtain ⟨pb, po, rfl, -, hpb, hF, z0, z1⟩ := HP.out.at (i := 0) (p := (x1, y1)) rfl
    have hpg : pb ≠ w1.heap.size := by
      have h1 : w1.heap.size + 1 ≤ pb := hF
      omega
    simp only [Nat.zero_mul, Nat.add_zero] at z0 z1
    have HBW : Hid (Blk6 ((w2.setCell ⟨w1.heap.size, 1, none⟩ (.int .i64 x1)).setCell ⟨w1.heap.size, 2, none⟩ (.int .i64 y1)) w1.heap.size 46 (.int .i64 0) (.int .i64 x1) (.int .i64 y1) (.int .i64 0) (.int .i64 0) (.slice none 0 0)) := Lib.hid (heap_setCell_same _ w1.heap.size 2 _ 46 (.int .i64 y1) (heap_setCell_same _ w1.heap.size 1 _ 46 (.int .i64 x1) B5.out))
    have HJW : Hid (Kept (Just w1.heap.size) w2 ((w2.setCell ⟨w1.heap.size, 1, none⟩ (.int .i64 x1)).setCell ⟨w1.heap.size, 2, none⟩ (.int .i64 y1))) := Lib.hid ((kept1 _ w1.heap.size 1 (.int .i64 x1)).trans' (kept1 _ w1.heap.size 2 (.int .i64 y1)))
    have HP3 : Hid (PtsAt ((w2.setCell ⟨w1.heap.size, 1, none⟩ (.int .i64 x1)).setCell ⟨w1.heap.size, 2, none⟩ (.int .i64 y1)) (.slice none 0 0) [] (From (w1.heap.size + 1))) := Lib.hid (PtsAt.nils _ _)
    have HOc := HQ ((w2.setCell ⟨w1.heap.size, 1, none⟩ (.int .i64 x1)).setCell ⟨w1.heap.size, 2, none⟩ (.int .i64 y1)) 0 x1 y1 0 0 (.slice none 0 0) [] _ HP3.out (by simp)
    obtain ⟨ov, hov⟩ : ∃ x, (⟨(qrText ⟨0, ⟨(x1, y1), (0, 0)⟩, []⟩).toArray⟩ : ByteArray) = x := ⟨_, rfl⟩
    rw [hov] at HOc
    have HOe : Hid (ov = sv ↔ qrText ⟨0, ⟨(x1, y1), (0, 0)⟩, []⟩ = s) := Lib.hid (by
      rw [← hov, ← HSv.out]
      exact ⟨fun h => mk_inj h, fun h => by rw [h]⟩)
    clear hov HQ
    go_wp2_with fail
    refine HOc.out.mono ?_
    rintro e w3 ⟨rfl, hk3⟩
    have HF3 := Lib.hid (rq_fin hgl B2.out HBW.out HJW.out HP3.out HK2.out hk3)
    have c0 := cell_at HF3.out.1 0 _ rfl
    have c1 := cell_at HF3.out.1 1 _ rfl
    have c2 := cell_at HF3.out.1 2 _ rfl
    have c3 := cell_at HF3.out.1 3 _ rfl
    have c4 := cell_at HF3.out.1 4 _ rfl
    have c5 := cell_at HF3.out.1 5 _ rfl
    have f0 := frozen_at HF3.out.1 0
    have f1 := frozen_at HF3.out.1 1
    have f2 := frozen_at HF3.out.1 2
    have f3 := frozen_at HF3.out.1 3
    have f4 := frozen_at HF3.out.1 4
    have f5 := frozen_at HF3.out.1 5
    have d0 := cell_at HF3.out.2.1 0 _ rfl
    have d1 := cell_at HF3.out.2.1 1 _ rfl
    have d2 := cell_at HF3.out.2.1 2 _ rfl
    have d3 := cell_at HF3.out.2.1 3 _ rfl
    have d4 := cell_at HF3.out.2.1 4 _ rfl
    have d5 := cell_at HF3.out.2.1 5 _ rfl
    have g0 := frozen_at HF3.out.2.1 0
    have g1 := frozen_at HF3.out.2.1 1
    have g2 := frozen_at HF3.out.2.1 2
    have g3 := frozen_at HF3.out.2.1 3
    have g4 := frozen_at HF3.out.2.1 4
    have g5 := frozen_at HF3.out.2.1 5
    have hls : sv.toList = s := by rw [← HSv.out, ByteArray.toList_eq]
    have hos : ov ≠ sv → (ov.toList == s) = false := fun hn => by
      rw [← hls]
      simp only [beq_eq_false_iff_ne, ne_eq]
      intro e
      apply hn
      rw [ByteArray.toList_eq, ByteArray.toList_eq] at e
      exact ByteArray.ext (Array.ext' e)
    clear hk3
    by_cases ho : ov = sv
    · subst ho
      by_cases hse : s = []
      · have HN : Hid (∀ q, QrOk q → qrText q ≠ s) := Lib.hid (fun q hq he => qrText_iff.2 hq (he.trans hse))
        have HF := Lib.hid (set6_fin (.int .i64 0) (.int .i64 0) (.int .i64 0) (.int .i64 0) (.int .i64 0) (.slice none 0 0) HF3.out.1 HF3.out.2.2.2)
        have hse2 : ov.toList = [] := by rw [hls, hse]
        clear hls hos
        go_wp2_with fail
        exact bodyPost_cell2 (p := 2) (u := 3) (ty := 46) (g := w.heap.size) (by kernel_rfl) rfl HF.out.1 Tryz.underlying46 rfl (by kernel_rfl) rfl (.inr ⟨HN.out, rfl, HF.out.2⟩)
      · have hY := HOe.out.1 rfl
        exact absurd hY (HNw.out ⟨0, ⟨(x1, y1), (0, 0)⟩, []⟩ (qrText_iff.1 (by rw [hY]; exact hse)))
    · have HN := HNw
      have HF := Lib.hid (set6_fin (.int .i64 0) (.int .i64 0) (.int .i64 0) (.int .i64 0) (.int .i64 0) (.slice none 0 0) HF3.out.1 HF3.out.2.2.2)
      have hos2 : (ov.toList == sv.toList) = false := by rw [hls]; exact hos ho
      clear hls hos
      go_wp2_with fail
      exact bodyPost_cell2 (p := 2) (u := 3) (ty := 46) (g := w.heap.size) (by kernel_rfl) rfl HF.out.1 Tryz.underlying46 rfl (by kernel_rfl) rfl (.inr ⟨HN.out, rfl, HF.out.2⟩)
  | cons q r =>
    cases r with
    | nil =>
      simp only [List.length_nil, List.length_cons, Nat.zero_add, Nat.reduceAdd] at *
      obtain ⟨x1, y1⟩ := p
      obtain ⟨x2, y2⟩ := q
      obtain ⟨pb, po, rfl, -, hpb, hF, z0, z1⟩ := HP.out.at (i := 0) (p := (x1, y1)) rfl
      have hpg : pb ≠ w1.heap.size := by
        have h1 : w1.heap.size + 1 ≤ pb := hF
        omega
      obtain ⟨_, _, e', -, -, -, z2, z3⟩ := HP.out.at (i := 1) (p := (x2, y2)) rfl
      simp only [Option.some.injEq, Addr.mk.injEq, and_true] at e'
      obtain ⟨rfl, rfl⟩ := e'
      simp only [Nat.zero_mul, Nat.add_zero, Nat.one_mul] at z0 z1 z2 z3
      have HBW : Hid (Blk6 (((((w2.setCell ⟨w1.heap.size, 1, none⟩ (.int .i64 x1)).setCell ⟨w1.heap.size, 2, none⟩ (.int .i64 y1)).setCell ⟨w1.heap.size, 3, none⟩ (.int .i64 x2)).setCell ⟨w1.heap.size, 4, none⟩ (.int .i64 y2)).drew) w1.heap.size 46 (.int .i64 0) (.int .i64 x1) (.int .i64 y1) (.int .i64 x2) (.int .i64 y2) (.slice none 0 0)) := Lib.hid (heap_setCell_same _ w1.heap.size 4 _ 46 (.int .i64 y2) (heap_setCell_same _ w1.heap.size 3 _ 46 (.int .i64 x2) (heap_setCell_same _ w1.heap.size 2 _ 46 (.int .i64 y1) (heap_setCell_same _ w1.heap.size 1 _ 46 (.int .i64 x1) B5.out))))
      have HJW : Hid (Kept (Just w1.heap.size) w2 (((((w2.setCell ⟨w1.heap.size, 1, none⟩ (.int .i64 x1)).setCell ⟨w1.heap.size, 2, none⟩ (.int .i64 y1)).setCell ⟨w1.heap.size, 3, none⟩ (.int .i64 x2)).setCell ⟨w1.heap.size, 4, none⟩ (.int .i64 y2)).drew)) := Lib.hid ((((kept1 _ w1.heap.size 1 (.int .i64 x1)).trans' (kept1 _ w1.heap.size 2 (.int .i64 y1))).trans' (kept1 _ w1.heap.size 3 (.int .i64 x2))).trans' (kept1 _ w1.heap.size 4 (.int .i64 y2))).trans' (Kept.drew _ _)
      have HP3 : Hid (PtsAt (((((w2.setCell ⟨w1.heap.size, 1, none⟩ (.int .i64 x1)).setCell ⟨w1.heap.size, 2, none⟩ (.int .i64 y1)).setCell ⟨w1.heap.size, 3, none⟩ (.int .i64 x2)).setCell ⟨w1.heap.size, 4, none⟩ (.int .i64 y2)).drew) (.slice none 0 0) [] (From (w1.heap.size + 1))) := Lib.hid (PtsAt.nils _ _)
      have HOc := HQ (((((w2.setCell ⟨w1.heap.size, 1, none⟩ (.int .i64 x1)).setCell ⟨w1.heap.size, 2, none⟩ (.int .i64 y1)).setCell ⟨w1.heap.size, 3, none⟩ (.int .i64 x2)).setCell ⟨w1.heap.size, 4, none⟩ (.int .i64 y2)).drew) 0 x1 y1 x2 y2 (.slice none 0 0) [] _ HP3.out (by simp)
      obtain ⟨ov, hov⟩ : ∃ x, (⟨(qrText ⟨0, ⟨(x1, y1), (x2, y2)⟩, []⟩).toArray⟩ : ByteArray) = x := ⟨_, rfl⟩
      rw [hov] at HOc
      have HOe : Hid (ov = sv ↔ qrText ⟨0, ⟨(x1, y1), (x2, y2)⟩, []⟩ = s) := Lib.hid (by
        rw [← hov, ← HSv.out]
        exact ⟨fun h => mk_inj h, fun h => by rw [h]⟩)
      clear hov HQ
      go_wp2_with fail
      go_region
      go_wp2_with fail
      refine HOc.out.mono ?_
      rintro e w3 ⟨rfl, hk3⟩
      have HF3 := Lib.hid (rq_fin hgl B2.out HBW.out HJW.out HP3.out HK2.out hk3)
      have c0 := cell_at HF3.out.1 0 _ rfl
      have c1 := cell_at HF3.out.1 1 _ rfl
      have c2 := cell_at HF3.out.1 2 _ rfl
      have c3 := cell_at HF3.out.1 3 _ rfl
      have c4 := cell_at HF3.out.1 4 _ rfl
      have c5 := cell_at HF3.out.1 5 _ rfl
      have f0 := frozen_at HF3.out.1 0
      have f1 := frozen_at HF3.out.1 1
      have f2 := frozen_at HF3.out.1 2
      have f3 := frozen_at HF3.out.1 3
      have f4 := frozen_at HF3.out.1 4
      have f5 := frozen_at HF3.out.1 5
      have d0 := cell_at HF3.out.2.1 0 _ rfl
      have d1 := cell_at HF3.out.2.1 1 _ rfl
      have d2 := cell_at HF3.out.2.1 2 _ rfl
      have d3 := cell_at HF3.out.2.1 3 _ rfl
      have d4 := cell_at HF3.out.2.1 4 _ rfl
      have d5 := cell_at HF3.out.2.1 5 _ rfl
      have g0 := frozen_at HF3.out.2.1 0
      have g1 := frozen_at HF3.out.2.1 1
      have g2 := frozen_at HF3.out.2.1 2
      have g3 := frozen_at HF3.out.2.1 3
      have g4 := frozen_at HF3.out.2.1 4
      have g5 := frozen_at HF3.out.2.1 5
      have hls : sv.toList = s := by rw [← HSv.out, ByteArray.toList_eq]
      have hos : ov ≠ sv → (ov.toList == s) = false := fun hn => by
        rw [← hls]
        simp only [beq_eq_false_iff_ne, ne_eq]
        intro e
        apply hn
        rw [ByteArray.toList_eq, ByteArray.toList_eq] at e
        exact ByteArray.ext (Array.ext' e)
      clear hk3
      by_cases ho : ov = sv
      · subst ho
        by_cases hse : s = []
        · have HN : Hid (∀ q, QrOk q → qrText q ≠ s) := Lib.hid (fun q hq he => qrText_iff.2 hq (he.trans hse))
          have HF := Lib.hid (set6_fin (.int .i64 0) (.int .i64 0) (.int .i64 0) (.int .i64 0) (.int .i64 0) (.slice none 0 0) HF3.out.1 HF3.out.2.2.2)
          have hse2 : ov.toList = [] := by rw [hls, hse]
          clear hls hos
          go_wp2_with fail
          exact bodyPost_cell2 (p := 2) (u := 3) (ty := 46) (g := w.heap.size) (by kernel_rfl) rfl HF.out.1 Tryz.underlying46 rfl (by kernel_rfl) rfl (.inr ⟨HN.out, rfl, HF.out.2⟩)
        · have hY := HOe.out.1 rfl
          exact absurd hY (HNw.out ⟨0, ⟨(x1, y1), (x2, y2)⟩, []⟩ (qrText_iff.1 (by rw [hY]; exact hse)))
      · have HN := HNw
        have HF := Lib.hid (set6_fin (.int .i64 0) (.int .i64 0) (.int .i64 0) (.int .i64 0) (.int .i64 0) (.slice none 0 0) HF3.out.1 HF3.out.2.2.2)
        have hos2 : (ov.toList == sv.toList) = false := by rw [hls]; exact hos ho
        clear hls hos
        go_wp2_with fail
        exact bodyPost_cell2 (p := 2) (u := 3) (ty := 46) (g := w.heap.size) (by kernel_rfl) rfl HF.out.1 Tryz.underlying46 rfl (by kernel_rfl) rfl (.inr ⟨HN.out, rfl, HF.out.2⟩)
    | cons o r =>
      simp only [List.length_cons] at *
      have n1 : ((r.length : Int) + 1 + 1 + 1 == 1) = false := by simp; omega
      have n2 : ((r.length : Int) + 1 + 1 + 1 == 2) = false := by simp; omega
      have HBW : Hid (Blk6 w2 w1.heap.size 46 (.int .i64 0) (.int .i64 0) (.int .i64 0) (.int .i64 0) (.int .i64 0) (.slice none 0 0)) := Lib.hid B5.out
      have HJW : Hid (Kept (Just w1.heap.size) w2 w2) := Lib.hid (Kept.refl _ _)
      have HP3 : Hid (PtsAt w2 (.slice none 0 0) [] (From (w1.heap.size + 1))) := Lib.hid (PtsAt.nils _ _)
      have HOc := HQ w2 0 0 0 0 0 (.slice none 0 0) [] _ HP3.out (by simp)
      obtain ⟨ov, hov⟩ : ∃ x, (⟨(qrText ⟨0, ⟨(0, 0), (0, 0)⟩, []⟩).toArray⟩ : ByteArray) = x := ⟨_, rfl⟩
      rw [hov] at HOc
      have HOe : Hid (ov = sv ↔ qrText ⟨0, ⟨(0, 0), (0, 0)⟩, []⟩ = s) := Lib.hid (by
        rw [← hov, ← HSv.out]
        exact ⟨fun h => mk_inj h, fun h => by rw [h]⟩)
      clear hov HQ
      go_wp2_with fail
      refine HOc.out.mono ?_
      rintro e w3 ⟨rfl, hk3⟩
      have HF3 := Lib.hid (rq_fin hgl B2.out HBW.out HJW.out HP3.out HK2.out hk3)
      have c0 := cell_at HF3.out.1 0 _ rfl
      have c1 := cell_at HF3.out.1 1 _ rfl
      have c2 := cell_at HF3.out.1 2 _ rfl
      have c3 := cell_at HF3.out.1 3 _ rfl
      have c4 := cell_at HF3.out.1 4 _ rfl
      have c5 := cell_at HF3.out.1 5 _ rfl
      have f0 := frozen_at HF3.out.1 0
      have f1 := frozen_at HF3.out.1 1
      have f2 := frozen_at HF3.out.1 2
      have f3 := frozen_at HF3.out.1 3
      have f4 := frozen_at HF3.out.1 4
      have f5 := frozen_at HF3.out.1 5
      have d0 := cell_at HF3.out.2.1 0 _ rfl
      have d1 := cell_at HF3.out.2.1 1 _ rfl
      have d2 := cell_at HF3.out.2.1 2 _ rfl
      have d3 := cell_at HF3.out.2.1 3 _ rfl
      have d4 := cell_at HF3.out.2.1 4 _ rfl
      have d5 := cell_at HF3.out.2.1 5 _ rfl
      have g0 := frozen_at HF3.out.2.1 0
      have g1 := frozen_at HF3.out.2.1 1
      have g2 := frozen_at HF3.out.2.1 2
      have g3 := frozen_at HF3.out.2.1 3
      have g4 := frozen_at HF3.out.2.1 4
      have g5 := frozen_at HF3.out.2.1 5
      have hls : sv.toList = s := by rw [← HSv.out, ByteArray.toList_eq]
      have hos : ov ≠ sv → (ov.toList == s) = false := fun hn => by
        rw [← hls]
        simp only [beq_eq_false_iff_ne, ne_eq]
        intro e
        apply hn
        rw [ByteArray.toList_eq, ByteArray.toList_eq] at e
        exact ByteArray.ext (Array.ext' e)
      clear hk3
      by_cases ho : ov = sv
      · subst ho
        by_cases hse : s = []
        · have HN : Hid (∀ q, QrOk q → qrText q ≠ s) := Lib.hid (fun q hq he => qrText_iff.2 hq (he.trans hse))
          have HF := Lib.hid (set6_fin (.int .i64 0) (.int .i64 0) (.int .i64 0) (.int .i64 0) (.int .i64 0) (.slice none 0 0) HF3.out.1 HF3.out.2.2.2)
          have hse2 : ov.toList = [] := by rw [hls, hse]
          clear hls hos
          go_wp2_with fail
          exact bodyPost_cell2 (p := 2) (u := 3) (ty := 46) (g := w.heap.size) (by kernel_rfl) rfl HF.out.1 Tryz.underlying46 rfl (by kernel_rfl) rfl (.inr ⟨HN.out, rfl, HF.out.2⟩)
        · have hY := HOe.out.1 rfl
          exact absurd hY (HNw.out ⟨0, ⟨(0, 0), (0, 0)⟩, []⟩ (qrText_iff.1 (by rw [hY]; exact hse)))
      · have HN := HNw
        have HF := Lib.hid (set6_fin (.int .i64 0) (.int .i64 0) (.int .i64 0) (.int .i64 0) (.int .i64 0) (.slice none 0 0) HF3.out.1 HF3.out.2.2.2)
        have hos2 : (ov.toList == sv.toList) = false := by rw [hls]; exact hos ho
        clear hls hos
        go_wp2_with fail
        exact bodyPost_cell2 (p := 2) (u := 3) (ty := 46) (g := w.heap.size) (by kernel_rfl) rfl HF.out.1 Tryz.underlying46 rfl (by kernel_rfl) rfl (.inr ⟨HN.out, rfl, HF.out.2⟩)
end Go.Proofs.YthjiobmglebmdaaGreatDoor
