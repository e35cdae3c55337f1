/- script: a query of a text. Printed by gen_pq.py. -/
import Derived.Test.YthjiobmglebmdaaGreatDoorPgScParse
import Derived.Test.YthjiobmglebmdaaGreatDoorPgScQrM
namespace Go.Proofs.YthjiobmglebmdaaGreatDoor
open Go.RowKit
open Go.Proofs.YthjiobmglebmdaaGreatDoor.Geo Go.Proofs.YthjiobmglebmdaaGreatDoor.Txt

def qrVal (q : Qr) (u : Value) : Value := qrV q.kind q.box.lo.1 q.box.lo.2 q.box.hi.1 q.box.hi.2 u
/-- how a text is read as a query, behind the call -/
def ParseQRes (w : World) (s : List UInt8) (e : Ending) (w' : World) : Prop :=
  (∃ q u, QrOk q ∧ qrText q = s ∧ e = .returned (.tuple #[qrVal (qrOf q.kind (qrPts q)) u, .nilIface]) ∧ PtsAt w' u (qrOf q.kind (qrPts q)).ring (From w.heap.size) ∧ Kept Nob w w') ∨
  ((∀ q, QrOk q → qrText q ≠ s) ∧ ∃ u, e = .returned (.tuple #[.agg #[.int .i64 0, .int .i64 0, .int .i64 0, .int .i64 0, .int .i64 0, .slice none 0 0], u]) ∧ FaultAt w' u ⟨#[115, 99, 114, 105, 112, 116]⟩ 0 10 (From w.heap.size) ∧ Kept Nob w w')
theorem qr_words {s : List UInt8} {q : Qr} (h : QrOk q) (he : qrText q = s) : sp s = qrWord q.kind :: (qrPts q).map ptTxt := by rw [← he, sp_qrText h]
theorem qr_no_ok {s h : List UInt8} {t : List (List UInt8)} (hs : sp s = h :: t) {l : List Pt} (hp : PtsRes t l false) : ∀ q, QrOk q → qrText q ≠ s := fun q hq he => by
  have := qr_words hq he
  rw [hs, List.cons.injEq] at this
  have := (hp (qrPts q) (qrPts_ok hq) this.2).2
  cases this
theorem qr_no_pts {s h : List UInt8} {t : List (List UInt8)} (hs : sp s = h :: t) {b : Bool} (hp : PtsRes t [] b) : ∀ q, QrOk q → qrText q ≠ s := fun q hq he => by
  have := qr_words hq he
  rw [hs, List.cons.injEq] at this
  have h1 := (hp (qrPts q) (qrPts_ok hq) this.2).1
  have h2 := (qrPts_len hq).1
  rw [← h1] at h2
  simp at h2
theorem qr_no_word {s h : List UInt8} {t : List (List UInt8)} (hs : sp s = h :: t) (h1 : h ≠ wMeets) (h2 : h ≠ wInside) (h3 : h ≠ wHas) (h4 : h ≠ wCross) : ∀ q, QrOk q → qrText q ≠ s := fun q hq he => by
  have := qr_words hq he
  rw [hs, List.cons.injEq] at this
  have hw := this.1
  rcases hq.four with e | e | e | e <;> rw [e] at hw
  · exact h1 hw
  · exact h2 hw
  · exact h3 hw
  · exact h4 hw
theorem qr_no_text {s : List UInt8} {t : List (List UInt8)} {k : Int} (hk : k = 1 ∨ k = 2 ∨ k = 3 ∨ k = 4) (hs : sp s = qrWord k :: t) {l : List Pt} {b : Bool} (hp : PtsRes t l b) (hne : qrText (qrOf k l) ≠ s) : ∀ q, QrOk q → qrText q ≠ s := fun q hq he => by
  have := qr_words hq he
  rw [hs, List.cons.injEq] at this
  have hkk : k = q.kind := by
    have hw := this.1
    rcases hq.four with e | e | e | e <;> rcases hk with rfl | rfl | rfl | rfl <;> rw [e] at hw ⊢ <;> exact absurd hw (by decide)
  obtain ⟨e1, -⟩ := hp (qrPts q) (qrPts_ok hq) this.2
  subst hkk e1
  exact hne ((qrOf_ok hq).2.1.trans he)
theorem qr_self {k : Int} {p : Pt} {l : List Pt} (hk : k = 1 ∨ k = 2 ∨ k = 3 ∨ k = 4) : qrOf (qrOf k (p :: l)).kind (qrPts (qrOf k (p :: l))) = qrOf k (p :: l) := by
  rcases hk with rfl | rfl | rfl | rfl <;> simp [qrOf, qrPts]
theorem qr_yes {s : List UInt8} {t : List (List UInt8)} {k : Int} (hs : sp s = qrWord k :: t) {q : Qr} (he : qrText q = s) : QrOk q := by
  apply qrText_iff.1
  rw [he]
  rintro rfl
  simp only [sp, List.cons.injEq] at hs
  exact qrWord_ne _ hs.1.symm
theorem pq_yes {w w' : World} {s : List UInt8} {e : Ending} {k : Int} {p : Pt} {l : List Pt} {u : Value} (hk : k = 1 ∨ k = 2 ∨ k = 3 ∨ k = 4) (ho : QrOk (qrOf k (p :: l))) (ht : qrText (qrOf k (p :: l)) = s)
    (he : e = .returned (.tuple #[qrVal (qrOf k (p :: l)) u, .nilIface])) (hp : PtsAt w' u (qrOf k (p :: l)).ring (From w.heap.size)) (K : Kept Nob w w') : ParseQRes w s e w' :=
  .inl ⟨qrOf k (p :: l), u, ho, ht, by rw [qr_self hk]; exact he, by rw [qr_self hk]; exact hp, K⟩
/-- the six cells of a block -/
def Blk6 (W : World) (g : Nat) (T : TypeId) (a0 a1 a2 a3 a4 a5 : Value) : Prop := W.heap[g]? = some (.cells #[a0, a1, a2, a3, a4, a5] T (0, 0))
def SIX (W : World) (g : Nat) (a0 a1 a2 a3 a4 a5 : Value) : World := (((((W.setCell ⟨g, 0, none⟩ a0).setCell ⟨g, 1, none⟩ a1).setCell ⟨g, 2, none⟩ a2).setCell ⟨g, 3, none⟩ a3).setCell ⟨g, 4, none⟩ a4).setCell ⟨g, 5, none⟩ a5
theorem set6 {W : World} {g : Nat} {T : TypeId} {u0 u1 u2 u3 u4 u5 : Value} (a0 a1 a2 a3 a4 a5 : Value) (hb : W.heap[g]? = some (.cells #[u0, u1, u2, u3, u4, u5] T (0, 0))) :
    (SIX W g a0 a1 a2 a3 a4 a5).heap[g]? = some (.cells #[a0, a1, a2, a3, a4, a5] T (0, 0)) ∧ Kept (Just g) W (SIX W g a0 a1 a2 a3 a4 a5) :=
  ⟨heap_setCell_same _ g 5 _ T a5 (heap_setCell_same _ g 4 _ T a4 (heap_setCell_same _ g 3 _ T a3 (heap_setCell_same _ g 2 _ T a2 (heap_setCell_same _ g 1 _ T a1 (heap_setCell_same W g 0 _ T a0 hb))))),
   ((((((kept1 W g 0 a0).trans' (kept1 _ g 1 a1)).trans' (kept1 _ g 2 a2)).trans' (kept1 _ g 3 a3)).trans' (kept1 _ g 4 a4)).trans' (kept1 _ g 5 a5))⟩
theorem set6_fin {w w2 : World} {T : TypeId} {u0 u1 u2 u3 u4 u5 : Value} (a0 a1 a2 a3 a4 a5 : Value) (hb : w2.heap[w.heap.size]? = some (.cells #[u0, u1, u2, u3, u4, u5] T (0, 0))) (hk : Kept Nob w w2) :
    (SIX w2 w.heap.size a0 a1 a2 a3 a4 a5).heap[w.heap.size]? = some (.cells #[a0, a1, a2, a3, a4, a5] T (0, 0)) ∧ Kept Nob w (SIX w2 w.heap.size a0 a1 a2 a3 a4 a5) := by
  obtain ⟨h1, h2⟩ := set6 (T := T) a0 a1 a2 a3 a4 a5 hb
  exact ⟨h1, hk.from (Nat.le_refl _) (h2.mono fun j _ (h : j = w.heap.size) => Nat.le_of_eq h.symm)⟩
theorem fault6 {w w2 : World} {u : Value} {op : ByteArray} {id c : Int} {n : Nat} (a0 a1 a2 a3 a4 a5 : Value) (hg : w.heap.size < n) (hf : FaultAt w2 u op id c (From n)) : FaultAt (SIX w2 w.heap.size a0 a1 a2 a3 a4 a5) u op id c (From w.heap.size) :=
  (hf.kept (((((((kept1 w2 w.heap.size 0 a0).trans' (kept1 _ w.heap.size 1 a1)).trans' (kept1 _ w.heap.size 2 a2)).trans' (kept1 _ w.heap.size 3 a3)).trans' (kept1 _ w.heap.size 4 a4)).trans' (kept1 _ w.heap.size 5 a5))) (fun j (h1 : n ≤ j) (h2 : j = w.heap.size) => by omega)).mono fun j _ (h1 : n ≤ j) => show w.heap.size ≤ j by omega
theorem pts6 {w w2 : World} {u : Value} {l : List Pt} {n : Nat} (a0 a1 a2 a3 a4 a5 : Value) (hg : w.heap.size < n) (hp : PtsAt w2 u l (From n)) : PtsAt (SIX w2 w.heap.size a0 a1 a2 a3 a4 a5) u l (From w.heap.size) :=
  (hp.kept (((((((kept1 w2 w.heap.size 0 a0).trans' (kept1 _ w.heap.size 1 a1)).trans' (kept1 _ w.heap.size 2 a2)).trans' (kept1 _ w.heap.size 3 a3)).trans' (kept1 _ w.heap.size 4 a4)).trans' (kept1 _ w.heap.size 5 a5))) (fun j (h1 : n ≤ j) (h2 : j = w.heap.size) => by omega)).mono fun j _ (h1 : n ≤ j) => show w.heap.size ≤ j by omega
set_option maxRecDepth 100000 in
set_option maxHeartbeats 8000000 in
theorem script_ParseQuery (w : World) (s : List UInt8) (hs : s.length ≤ 400000) (hE : Env w) :
    Calls Tryz.prog 20 #[strV s] w (ParseQRes w s) := by
  have hlen := sp_len s
  have HSp := fun (wx : World) (kx : Kept Nob w wx) => Lib.hid (str_split wx s (by omega) (hE.kept kx))
  have HBd := fun (wx : World) => Lib.hid (script_bad wx)
  have HE := Lib.hid hE
  obtain ⟨h, t, hht⟩ : ∃ h t, sp s = h :: t := by
    cases hsp : sp s with
    | nil => exact absurd hsp (sp_ne s)
    | cons h t => exact ⟨h, t, rfl⟩
  have HS := Lib.hid hht
  rw [hht] at hlen
  have hn1 : t.length + 1 ≤ s.length + 1 := by simpa using hlen.1
  have HPts := fun (wx : World) (kx : Kept Nob w wx) (v : Value) (F : Nat → Prop) (hr : Reads wx v (t.map strV) F) => Lib.hid (script_points wx v t F hr (by omega) (fun x hx => by have := hlen.2 x (by simp [hx]); omega) (hE.kept kx))
  simp only [hht, List.map_cons] at HSp
  clear hlen hE hht
  obtain ⟨sv, hsv⟩ : ∃ u, (⟨s.toArray⟩ : ByteArray) = u := ⟨_, rfl⟩
  obtain ⟨hv, hhv⟩ : ∃ u, (⟨h.toArray⟩ : ByteArray) = u := ⟨_, rfl⟩
  simp only [strV, hsv, hhv] at HSp ⊢
  have hls : sv.toList = s := by rw [← hsv, ByteArray.toList_eq]
  have hl : hv.toList = h := by rw [← hhv, ByteArray.toList_eq]
  have HI := fun (d : List UInt8) (hd : h ≠ d) => Lib.hid (show (hv.toList == d) = false by rw [hl]; exact beq_eq_false_iff_ne.2 hd)
  have HJ := fun (d : List UInt8) (hd : h = d) => Lib.hid (show (hv.toList == d) = true by rw [hl]; exact beq_iff_eq.2 hd)
  have HLs := Lib.hid hls
  clear hl hls hsv hhv
  go_enter Tryz.func20, Tryz.ntmps20
  go_wp2_with fail
  refine (HSp _ (Kept.alloc Nob _ _)).out.mono ?_
  rintro e w1 ⟨b, rfl, hr, hk1⟩
  simp only [List.length_cons] at hr ⊢
  have HR1 := Lib.hid hr.tail1
  obtain ⟨b', o', e', hb, hF0, c0⟩ := hr.at' (i := 0) rfl
  simp only [Option.some.injEq, Addr.mk.injEq, and_true] at e'
  obtain ⟨rfl, rfl⟩ := e'
  have BB := Lib.hid (new1 hk1)
  have HK := Lib.hid ((Kept.alloc Nob w _).then hk1)
  have hgl : w.heap.size < w1.heap.size := (Array.getElem?_eq_some_iff.1 BB.out).1
  have C0 := Lib.hid c0
  clear hr hk1 hF0 c0
  -- the slice behind the word
  obtain ⟨tl, htl⟩ : ∃ v, v = Value.slice (some (if t.length + 1 = 1 then ⟨b, 0, none⟩ else ⟨b, 1, none⟩)) (t.length + 1 - 1) (t.length + 1 - 1) := ⟨_, rfl⟩
  rw [← htl] at HR1
  have hpts : ∀ (a : Act) (R : Ending → World → Prop), True := fun _ _ => trivial
  cases t with
  | nil =>
    have HN : Hid (∀ q, QrOk q → qrText q ≠ s) := Lib.hid (fun q hq he => by
      have := qr_words hq he
      rw [HS.out, List.cons.injEq] at this
      have h2 := (qrPts_len hq).1
      have h3 := congrArg List.length this.2
      simp only [List.length_nil, List.length_map] at h3
      omega)
    simp only [List.map_nil, List.length_nil, Nat.zero_add, if_true, Nat.sub_self] at *
    have HPn := HPts _ HK.out tl _ HR1.out
    subst htl
    go_wp2_with fail
    refine HPn.out.mono ?_
    rintro e w2 ⟨u, b2, l, rfl, hp, hll, hres, hk2⟩
    obtain ⟨ua, uc, rfl⟩ := hp.shape
    have HPt := Lib.hid hp
    have HRs := Lib.hid hres
    have HLl := Lib.hid hll
    have HK2 := Lib.hid (HK.out.then hk2)
    have HB2 := Lib.hid ((hk2.block w.heap.size hgl (fun f => f)).trans BB.out)
    have c0 := (hk2.cell (p := ⟨b, 0, none⟩) hb (fun f => f)).trans C0.out
    have hb2 : b < w2.heap.size := Nat.lt_of_lt_of_le hb hk2.size
    clear hp hres hll hk2
    obtain rfl : l = [] := List.eq_nil_of_length_eq_zero (Nat.le_zero.1 HLl.out)
    simp only [List.length_nil] at *
    cases b2
    all_goals go_wp2_with fail
    · skip
      refine (HBd _).out.mono ?_
      rintro e w9 ⟨ub, rfl, hf, hk9⟩
      have HKx := Lib.hid (HK2.out.then hk9)
      have HB9 := Lib.hid ((hk9.block w.heap.size (Array.getElem?_eq_some_iff.1 HB2.out).1 (fun f => f)).trans HB2.out)
      clear c0
      have z0 := cell_at HB9.out 0 _ rfl
      have z1 := cell_at HB9.out 1 _ rfl
      have z2 := cell_at HB9.out 2 _ rfl
      have z3 := cell_at HB9.out 3 _ rfl
      have z4 := cell_at HB9.out 4 _ rfl
      have z5 := cell_at HB9.out 5 _ rfl
      have fz0 := frozen_at HB9.out 0
      have fz1 := frozen_at HB9.out 1
      have fz2 := frozen_at HB9.out 2
      have fz3 := frozen_at HB9.out 3
      have fz4 := frozen_at HB9.out 4
      have fz5 := frozen_at HB9.out 5
      have HE2 := Lib.hid (set6_fin (.int .i64 0) (.int .i64 0) (.int .i64 0) (.int .i64 0) (.int .i64 0) (.slice none 0 0) HB9.out HKx.out)
      have HF := Lib.hid (fault6 (.int .i64 0) (.int .i64 0) (.int .i64 0) (.int .i64 0) (.int .i64 0) (.slice none 0 0) (Array.getElem?_eq_some_iff.1 HB2.out).1 hf)
      obtain ⟨gb, rfl, -⟩ := hf
      clear hk9
      go_wp2_with fail
      exact bodyPost_cell2 (p := 2) (u := 3) (ty := 46) (g := w.heap.size) (by kernel_rfl) rfl HE2.out.1 Tryz.underlying46 rfl (by kernel_rfl) rfl (.inr ⟨HN.out, _, rfl, HF.out, HE2.out.2⟩)
    · skip
      refine (HBd _).out.mono ?_
      rintro e w9 ⟨ub, rfl, hf, hk9⟩
      have HKx := Lib.hid (HK2.out.then hk9)
      have HB9 := Lib.hid ((hk9.block w.heap.size (Array.getElem?_eq_some_iff.1 HB2.out).1 (fun f => f)).trans HB2.out)
      clear c0
      have z0 := cell_at HB9.out 0 _ rfl
      have z1 := cell_at HB9.out 1 _ rfl
      have z2 := cell_at HB9.out 2 _ rfl
      have z3 := cell_at HB9.out 3 _ rfl
      have z4 := cell_at HB9.out 4 _ rfl
      have z5 := cell_at HB9.out 5 _ rfl
      have fz0 := frozen_at HB9.out 0
      have fz1 := frozen_at HB9.out 1
      have fz2 := frozen_at HB9.out 2
      have fz3 := frozen_at HB9.out 3
      have fz4 := frozen_at HB9.out 4
      have fz5 := frozen_at HB9.out 5
      have HE2 := Lib.hid (set6_fin (.int .i64 0) (.int .i64 0) (.int .i64 0) (.int .i64 0) (.int .i64 0) (.slice none 0 0) HB9.out HKx.out)
      have HF := Lib.hid (fault6 (.int .i64 0) (.int .i64 0) (.int .i64 0) (.int .i64 0) (.int .i64 0) (.slice none 0 0) (Array.getElem?_eq_some_iff.1 HB2.out).1 hf)
      obtain ⟨gb, rfl, -⟩ := hf
      clear hk9
      go_wp2_with fail
      exact bodyPost_cell2 (p := 2) (u := 3) (ty := 46) (g := w.heap.size) (by kernel_rfl) rfl HE2.out.1 Tryz.underlying46 rfl (by kernel_rfl) rfl (.inr ⟨HN.out, _, rfl, HF.out, HE2.out.2⟩)
  | cons x r =>
    have hne : ¬ (r.length + 1 + 1 = 1) := by omega
    have hn0 : ¬ (r.length + 1 = 0) := by omega
    simp only [List.length_cons] at *
    rw [if_neg hne] at htl
    simp only [Nat.add_sub_cancel] at htl
    have HPn := HPts _ HK.out tl _ HR1.out
    subst htl
    go_wp2_with fail
    refine HPn.out.mono ?_
    rintro e w2 ⟨u, b2, l, rfl, hp, hll, hres, hk2⟩
    obtain ⟨ua, uc, rfl⟩ := hp.shape
    have HPt := Lib.hid hp
    have HRs := Lib.hid hres
    have HLl := Lib.hid hll
    have HK2 := Lib.hid (HK.out.then hk2)
    have HB2 := Lib.hid ((hk2.block w.heap.size hgl (fun f => f)).trans BB.out)
    have c0 := (hk2.cell (p := ⟨b, 0, none⟩) hb (fun f => f)).trans C0.out
    have hb2 : b < w2.heap.size := Nat.lt_of_lt_of_le hb hk2.size
    clear hp hres hll hk2
    cases b2 with
    | false =>
      have HN := Lib.hid (qr_no_ok HS.out HRs.out)
      go_wp2_with fail
      refine (HBd _).out.mono ?_
      rintro e w9 ⟨ub, rfl, hf, hk9⟩
      have HKx := Lib.hid (HK2.out.then hk9)
      have HB9 := Lib.hid ((hk9.block w.heap.size (Array.getElem?_eq_some_iff.1 HB2.out).1 (fun f => f)).trans HB2.out)
      clear c0
      have z0 := cell_at HB9.out 0 _ rfl
      have z1 := cell_at HB9.out 1 _ rfl
      have z2 := cell_at HB9.out 2 _ rfl
      have z3 := cell_at HB9.out 3 _ rfl
      have z4 := cell_at HB9.out 4 _ rfl
      have z5 := cell_at HB9.out 5 _ rfl
      have fz0 := frozen_at HB9.out 0
      have fz1 := frozen_at HB9.out 1
      have fz2 := frozen_at HB9.out 2
      have fz3 := frozen_at HB9.out 3
      have fz4 := frozen_at HB9.out 4
      have fz5 := frozen_at HB9.out 5
      have HE2 := Lib.hid (set6_fin (.int .i64 0) (.int .i64 0) (.int .i64 0) (.int .i64 0) (.int .i64 0) (.slice none 0 0) HB9.out HKx.out)
      have HF := Lib.hid (fault6 (.int .i64 0) (.int .i64 0) (.int .i64 0) (.int .i64 0) (.int .i64 0) (.slice none 0 0) (Array.getElem?_eq_some_iff.1 HB2.out).1 hf)
      obtain ⟨gb, rfl, -⟩ := hf
      clear hk9
      go_wp2_with fail
      exact bodyPost_cell2 (p := 2) (u := 3) (ty := 46) (g := w.heap.size) (by kernel_rfl) rfl HE2.out.1 Tryz.underlying46 rfl (by kernel_rfl) rfl (.inr ⟨HN.out, _, rfl, HF.out, HE2.out.2⟩)
    | true =>
      cases l with
      | nil =>
        have HN := Lib.hid (qr_no_pts HS.out HRs.out)
        simp only [List.length_nil] at *
        go_wp2_with fail
        refine (HBd _).out.mono ?_
        rintro e w9 ⟨ub, rfl, hf, hk9⟩
        have HKx := Lib.hid (HK2.out.then hk9)
        have HB9 := Lib.hid ((hk9.block w.heap.size (Array.getElem?_eq_some_iff.1 HB2.out).1 (fun f => f)).trans HB2.out)
        clear c0
        have z0 := cell_at HB9.out 0 _ rfl
        have z1 := cell_at HB9.out 1 _ rfl
        have z2 := cell_at HB9.out 2 _ rfl
        have z3 := cell_at HB9.out 3 _ rfl
        have z4 := cell_at HB9.out 4 _ rfl
        have z5 := cell_at HB9.out 5 _ rfl
        have fz0 := frozen_at HB9.out 0
        have fz1 := frozen_at HB9.out 1
        have fz2 := frozen_at HB9.out 2
        have fz3 := frozen_at HB9.out 3
        have fz4 := frozen_at HB9.out 4
        have fz5 := frozen_at HB9.out 5
        have HE2 := Lib.hid (set6_fin (.int .i64 0) (.int .i64 0) (.int .i64 0) (.int .i64 0) (.int .i64 0) (.slice none 0 0) HB9.out HKx.out)
        have HF := Lib.hid (fault6 (.int .i64 0) (.int .i64 0) (.int .i64 0) (.int .i64 0) (.int .i64 0) (.slice none 0 0) (Array.getElem?_eq_some_iff.1 HB2.out).1 hf)
        obtain ⟨gb, rfl, -⟩ := hf
        clear hk9
        go_wp2_with fail
        exact bodyPost_cell2 (p := 2) (u := 3) (ty := 46) (g := w.heap.size) (by kernel_rfl) rfl HE2.out.1 Tryz.underlying46 rfl (by kernel_rfl) rfl (.inr ⟨HN.out, _, rfl, HF.out, HE2.out.2⟩)
      | cons p l =>
        obtain ⟨px, py⟩ := p
        obtain ⟨q, hq⟩ : ∃ q, ((px, py) :: l)[l.length]? = some q := ⟨_, List.getElem?_eq_getElem (by simp)⟩
        have hlast : ((px, py) :: l).getLastD (0, 0) = q := by
          rw [List.getLastD_eq_getLast?, List.getLast?_eq_getElem?]
          simp only [List.length_cons, Nat.add_sub_cancel]
          rw [hq]; rfl
        have HLa := Lib.hid hlast
        obtain ⟨pb, po, rfl, -, hpb, hF, d0, d1⟩ := HPt.out.at (i := 0) (p := (px, py)) rfl
        obtain ⟨_, _, e', -, -, -, d2, d3⟩ := HPt.out.at hq
        simp only [Option.some.injEq, Addr.mk.injEq, and_true] at e'
        obtain ⟨rfl, rfl⟩ := e'
        have hpg : pb ≠ w.heap.size := by
          have h1 : w1.heap.size ≤ pb := hF
          omega
        obtain ⟨qx, qy⟩ := q
        simp only [Nat.zero_mul, Nat.add_zero, List.length_cons] at d0 d1 d2 d3 ⊢
        have hwl : wrap64 (l.length : Int) = (l.length : Int) := IntWalk.wrap64_in _ (by have := HLl.out; simp only [List.length_cons] at *; omega)
        clear hq hlast hF
        have y0 := cell_at HB2.out 0 _ rfl
        have y1 := cell_at HB2.out 1 _ rfl
        have y2 := cell_at HB2.out 2 _ rfl
        have y3 := cell_at HB2.out 3 _ rfl
        have y4 := cell_at HB2.out 4 _ rfl
        have y5 := cell_at HB2.out 5 _ rfl
        have fy0 := frozen_at HB2.out 0
        have fy1 := frozen_at HB2.out 1
        have fy2 := frozen_at HB2.out 2
        have fy3 := frozen_at HB2.out 3
        have fy4 := frozen_at HB2.out 4
        have fy5 := frozen_at HB2.out 5
        by_cases n1 : h = wMeets
        case pos =>
          have t1 : (hv.toList == [109, 101, 101, 116, 115]) = true := (HJ wMeets n1).out
          have HSk : Hid (sp s = qrWord 1 :: x :: r) := Lib.hid (by rw [HS.out, n1]; rfl)
          have HQE : Hid ((⟨1, ⟨(px, py), (qx, qy)⟩, []⟩ : Qr) = qrOf 1 ((px, py) :: l)) := Lib.hid (by simp [qrOf, ← HLa.out])
          have HQV : Hid (qrVal (qrOf 1 ((px, py) :: l)) (.slice none 0 0) = .agg #[.int .i64 1, .int .i64 px, .int .i64 py, .int .i64 qx, .int .i64 qy, .slice none 0 0]) := Lib.hid (by rw [← HQE.out]; rfl)
          obtain ⟨tv, htv⟩ : ∃ u, (⟨(qrText (qrOf 1 ((px, py) :: l))).toArray⟩ : ByteArray) = u := ⟨_, rfl⟩
          replace htv := Lib.hid htv
          have hlt : tv.toList = qrText (qrOf 1 ((px, py) :: l)) := by rw [← htv.out, ByteArray.toList_eq]
          clear HI HJ n1
          by_cases heq : qrText (qrOf 1 ((px, py) :: l)) = s
          case pos =>
            have hb1 : (tv.toList == sv.toList) = true := by rw [hlt, HLs.out, heq]; exact beq_iff_eq.2 rfl
            have hbn : (tv.toList != sv.toList) = false := by simp [bne, hb1]
            have HOk := Lib.hid (qr_yes HSk.out heq)
            have HEq := Lib.hid heq
            clear hlt heq
            go_wp2_with fail
            have HBW : Hid (Blk6 (((((w2.setCell ⟨w.heap.size, 0, none⟩ (.int .i64 1)).setCell ⟨w.heap.size, 3, none⟩ (.int .i64 qx)).setCell ⟨w.heap.size, 4, none⟩ (.int .i64 qy)).setCell ⟨w.heap.size, 1, none⟩ (.int .i64 px)).setCell ⟨w.heap.size, 2, none⟩ (.int .i64 py)) w.heap.size 46 (.int .i64 1) (.int .i64 px) (.int .i64 py) (.int .i64 qx) (.int .i64 qy) (.slice none 0 0)) := Lib.hid (heap_setCell_same _ w.heap.size 2 _ 46 (.int .i64 py) (heap_setCell_same _ w.heap.size 1 _ 46 (.int .i64 px) (heap_setCell_same _ w.heap.size 4 _ 46 (.int .i64 qy) (heap_setCell_same _ w.heap.size 3 _ 46 (.int .i64 qx) (heap_setCell_same _ w.heap.size 0 _ 46 (.int .i64 1) HB2.out)))))
            have HJW : Hid (Kept (Just w.heap.size) w2 (((((w2.setCell ⟨w.heap.size, 0, none⟩ (.int .i64 1)).setCell ⟨w.heap.size, 3, none⟩ (.int .i64 qx)).setCell ⟨w.heap.size, 4, none⟩ (.int .i64 qy)).setCell ⟨w.heap.size, 1, none⟩ (.int .i64 px)).setCell ⟨w.heap.size, 2, none⟩ (.int .i64 py))) := Lib.hid (((((kept1 _ w.heap.size 0 (.int .i64 1)).trans' (kept1 _ w.heap.size 3 (.int .i64 qx))).trans' (kept1 _ w.heap.size 4 (.int .i64 qy))).trans' (kept1 _ w.heap.size 1 (.int .i64 px))).trans' (kept1 _ w.heap.size 2 (.int .i64 py)))
            have HKW : Hid (Kept Nob w (((((w2.setCell ⟨w.heap.size, 0, none⟩ (.int .i64 1)).setCell ⟨w.heap.size, 3, none⟩ (.int .i64 qx)).setCell ⟨w.heap.size, 4, none⟩ (.int .i64 qy)).setCell ⟨w.heap.size, 1, none⟩ (.int .i64 px)).setCell ⟨w.heap.size, 2, none⟩ (.int .i64 py))) := Lib.hid (HK2.out.from (Nat.le_refl _) (HJW.out.mono fun j _ (h : j = w.heap.size) => Nat.le_of_eq h.symm))
            have HQ := Lib.hid (script_Query (((((w2.setCell ⟨w.heap.size, 0, none⟩ (.int .i64 1)).setCell ⟨w.heap.size, 3, none⟩ (.int .i64 qx)).setCell ⟨w.heap.size, 4, none⟩ (.int .i64 qy)).setCell ⟨w.heap.size, 1, none⟩ (.int .i64 px)).setCell ⟨w.heap.size, 2, none⟩ (.int .i64 py)) (1) (px) (py) (qx) (qy) (.slice none 0 0) [] _ (PtsAt.nils _ Nob) (by simp) (HE.out.kept HKW.out))
            rw [HQE.out] at HQ
            simp only [strV, htv.out] at HQ
            refine HQ.out.mono ?_
            rintro e w3 ⟨rfl, hk3⟩
            have HK3 := Lib.hid (HKW.out.then hk3)
            have HB3 := Lib.hid ((hk3.block w.heap.size (Array.getElem?_eq_some_iff.1 (show Blk6 _ _ _ _ _ _ _ _ _ from HBW.out)).1 (fun f => f)).trans (show Blk6 _ _ _ _ _ _ _ _ _ from HBW.out))
            clear c0 d0 d1 d2 d3 y0 y1 y2 y3 y4 y5 fy0 fy1 fy2 fy3 fy4 fy5
            have z0 := cell_at HB3.out 0 _ rfl
            have z1 := cell_at HB3.out 1 _ rfl
            have z2 := cell_at HB3.out 2 _ rfl
            have z3 := cell_at HB3.out 3 _ rfl
            have z4 := cell_at HB3.out 4 _ rfl
            have z5 := cell_at HB3.out 5 _ rfl
            have fz0 := frozen_at HB3.out 0
            have fz1 := frozen_at HB3.out 1
            have fz2 := frozen_at HB3.out 2
            have fz3 := frozen_at HB3.out 3
            have fz4 := frozen_at HB3.out 4
            have fz5 := frozen_at HB3.out 5
            have HE2 := Lib.hid (set6_fin (.int .i64 1) (.int .i64 px) (.int .i64 py) (.int .i64 qx) (.int .i64 qy) (.slice none 0 0) HB3.out HK3.out)
            have HPe : Hid (PtsAt (SIX w3 w.heap.size (.int .i64 1) (.int .i64 px) (.int .i64 py) (.int .i64 qx) (.int .i64 qy) (.slice none 0 0)) (.slice none 0 0) (qrOf 1 ((px, py) :: l)).ring (From w.heap.size)) := Lib.hid (by rw [← HQE.out]; exact PtsAt.nils _ _)
            clear hk3
            go_wp2_with fail
            exact bodyPost_cell2 (p := 2) (u := 3) (ty := 46) (g := w.heap.size) (by kernel_rfl) rfl HE2.out.1 Tryz.underlying46 rfl (by kernel_rfl) rfl (pq_yes (k := 1) (by omega) HOk.out HEq.out (by rw [HQV.out]; rfl) HPe.out HE2.out.2)
          case neg =>
            have hb1 : (tv.toList == sv.toList) = false := by rw [hlt, HLs.out]; exact beq_eq_false_iff_ne.2 heq
            have hbn : (tv.toList != sv.toList) = true := by simp [bne, hb1]
            have HN := Lib.hid (qr_no_text (by omega) HSk.out HRs.out heq)
            clear hlt heq
            go_wp2_with fail
            have HBW : Hid (Blk6 (((((w2.setCell ⟨w.heap.size, 0, none⟩ (.int .i64 1)).setCell ⟨w.heap.size, 3, none⟩ (.int .i64 qx)).setCell ⟨w.heap.size, 4, none⟩ (.int .i64 qy)).setCell ⟨w.heap.size, 1, none⟩ (.int .i64 px)).setCell ⟨w.heap.size, 2, none⟩ (.int .i64 py)) w.heap.size 46 (.int .i64 1) (.int .i64 px) (.int .i64 py) (.int .i64 qx) (.int .i64 qy) (.slice none 0 0)) := Lib.hid (heap_setCell_same _ w.heap.size 2 _ 46 (.int .i64 py) (heap_setCell_same _ w.heap.size 1 _ 46 (.int .i64 px) (heap_setCell_same _ w.heap.size 4 _ 46 (.int .i64 qy) (heap_setCell_same _ w.heap.size 3 _ 46 (.int .i64 qx) (heap_setCell_same _ w.heap.size 0 _ 46 (.int .i64 1) HB2.out)))))
            have HJW : Hid (Kept (Just w.heap.size) w2 (((((w2.setCell ⟨w.heap.size, 0, none⟩ (.int .i64 1)).setCell ⟨w.heap.size, 3, none⟩ (.int .i64 qx)).setCell ⟨w.heap.size, 4, none⟩ (.int .i64 qy)).setCell ⟨w.heap.size, 1, none⟩ (.int .i64 px)).setCell ⟨w.heap.size, 2, none⟩ (.int .i64 py))) := Lib.hid (((((kept1 _ w.heap.size 0 (.int .i64 1)).trans' (kept1 _ w.heap.size 3 (.int .i64 qx))).trans' (kept1 _ w.heap.size 4 (.int .i64 qy))).trans' (kept1 _ w.heap.size 1 (.int .i64 px))).trans' (kept1 _ w.heap.size 2 (.int .i64 py)))
            have HKW : Hid (Kept Nob w (((((w2.setCell ⟨w.heap.size, 0, none⟩ (.int .i64 1)).setCell ⟨w.heap.size, 3, none⟩ (.int .i64 qx)).setCell ⟨w.heap.size, 4, none⟩ (.int .i64 qy)).setCell ⟨w.heap.size, 1, none⟩ (.int .i64 px)).setCell ⟨w.heap.size, 2, none⟩ (.int .i64 py))) := Lib.hid (HK2.out.from (Nat.le_refl _) (HJW.out.mono fun j _ (h : j = w.heap.size) => Nat.le_of_eq h.symm))
            have HQ := Lib.hid (script_Query (((((w2.setCell ⟨w.heap.size, 0, none⟩ (.int .i64 1)).setCell ⟨w.heap.size, 3, none⟩ (.int .i64 qx)).setCell ⟨w.heap.size, 4, none⟩ (.int .i64 qy)).setCell ⟨w.heap.size, 1, none⟩ (.int .i64 px)).setCell ⟨w.heap.size, 2, none⟩ (.int .i64 py)) (1) (px) (py) (qx) (qy) (.slice none 0 0) [] _ (PtsAt.nils _ Nob) (by simp) (HE.out.kept HKW.out))
            rw [HQE.out] at HQ
            simp only [strV, htv.out] at HQ
            refine HQ.out.mono ?_
            rintro e w3 ⟨rfl, hk3⟩
            have HK3 := Lib.hid (HKW.out.then hk3)
            have HB3 := Lib.hid ((hk3.block w.heap.size (Array.getElem?_eq_some_iff.1 (show Blk6 _ _ _ _ _ _ _ _ _ from HBW.out)).1 (fun f => f)).trans (show Blk6 _ _ _ _ _ _ _ _ _ from HBW.out))
            clear hk3
            go_wp2_with fail
            refine (HBd _).out.mono ?_
            rintro e w9 ⟨ub, rfl, hf, hk9⟩
            have HKx := Lib.hid (HK3.out.then hk9)
            have HB9 := Lib.hid ((hk9.block w.heap.size (Array.getElem?_eq_some_iff.1 HB3.out).1 (fun f => f)).trans HB3.out)
            clear c0 d0 d1 d2 d3 y0 y1 y2 y3 y4 y5 fy0 fy1 fy2 fy3 fy4 fy5
            have z0 := cell_at HB9.out 0 _ rfl
            have z1 := cell_at HB9.out 1 _ rfl
            have z2 := cell_at HB9.out 2 _ rfl
            have z3 := cell_at HB9.out 3 _ rfl
            have z4 := cell_at HB9.out 4 _ rfl
            have z5 := cell_at HB9.out 5 _ rfl
            have fz0 := frozen_at HB9.out 0
            have fz1 := frozen_at HB9.out 1
            have fz2 := frozen_at HB9.out 2
            have fz3 := frozen_at HB9.out 3
            have fz4 := frozen_at HB9.out 4
            have fz5 := frozen_at HB9.out 5
            have HE2 := Lib.hid (set6_fin (.int .i64 0) (.int .i64 0) (.int .i64 0) (.int .i64 0) (.int .i64 0) (.slice none 0 0) HB9.out HKx.out)
            have HF := Lib.hid (fault6 (.int .i64 0) (.int .i64 0) (.int .i64 0) (.int .i64 0) (.int .i64 0) (.slice none 0 0) (Array.getElem?_eq_some_iff.1 HB3.out).1 hf)
            obtain ⟨gb, rfl, -⟩ := hf
            clear hk9
            go_wp2_with fail
            exact bodyPost_cell2 (p := 2) (u := 3) (ty := 46) (g := w.heap.size) (by kernel_rfl) rfl HE2.out.1 Tryz.underlying46 rfl (by kernel_rfl) rfl (.inr ⟨HN.out, _, rfl, HF.out, HE2.out.2⟩)
        case neg =>
          by_cases n2 : h = wInside
          case pos =>
            have t1 : (hv.toList == [109, 101, 101, 116, 115]) = false := (HI wMeets n1).out
            have t2 : (hv.toList == [105, 110, 115, 105, 100, 101]) = true := (HJ wInside n2).out
            have HSk : Hid (sp s = qrWord 2 :: x :: r) := Lib.hid (by rw [HS.out, n2]; rfl)
            have HQE : Hid ((⟨2, ⟨(px, py), (qx, qy)⟩, []⟩ : Qr) = qrOf 2 ((px, py) :: l)) := Lib.hid (by simp [qrOf, ← HLa.out])
            have HQV : Hid (qrVal (qrOf 2 ((px, py) :: l)) (.slice none 0 0) = .agg #[.int .i64 2, .int .i64 px, .int .i64 py, .int .i64 qx, .int .i64 qy, .slice none 0 0]) := Lib.hid (by rw [← HQE.out]; rfl)
            obtain ⟨tv, htv⟩ : ∃ u, (⟨(qrText (qrOf 2 ((px, py) :: l))).toArray⟩ : ByteArray) = u := ⟨_, rfl⟩
            replace htv := Lib.hid htv
            have hlt : tv.toList = qrText (qrOf 2 ((px, py) :: l)) := by rw [← htv.out, ByteArray.toList_eq]
            clear HI HJ n1 n2
            by_cases heq : qrText (qrOf 2 ((px, py) :: l)) = s
            case pos =>
              have hb1 : (tv.toList == sv.toList) = true := by rw [hlt, HLs.out, heq]; exact beq_iff_eq.2 rfl
              have hbn : (tv.toList != sv.toList) = false := by simp [bne, hb1]
              have HOk := Lib.hid (qr_yes HSk.out heq)
              have HEq := Lib.hid heq
              clear hlt heq
              go_wp2_with fail
              have HBW : Hid (Blk6 (((((w2.setCell ⟨w.heap.size, 0, none⟩ (.int .i64 2)).setCell ⟨w.heap.size, 3, none⟩ (.int .i64 qx)).setCell ⟨w.heap.size, 4, none⟩ (.int .i64 qy)).setCell ⟨w.heap.size, 1, none⟩ (.int .i64 px)).setCell ⟨w.heap.size, 2, none⟩ (.int .i64 py)) w.heap.size 46 (.int .i64 2) (.int .i64 px) (.int .i64 py) (.int .i64 qx) (.int .i64 qy) (.slice none 0 0)) := Lib.hid (heap_setCell_same _ w.heap.size 2 _ 46 (.int .i64 py) (heap_setCell_same _ w.heap.size 1 _ 46 (.int .i64 px) (heap_setCell_same _ w.heap.size 4 _ 46 (.int .i64 qy) (heap_setCell_same _ w.heap.size 3 _ 46 (.int .i64 qx) (heap_setCell_same _ w.heap.size 0 _ 46 (.int .i64 2) HB2.out)))))
              have HJW : Hid (Kept (Just w.heap.size) w2 (((((w2.setCell ⟨w.heap.size, 0, none⟩ (.int .i64 2)).setCell ⟨w.heap.size, 3, none⟩ (.int .i64 qx)).setCell ⟨w.heap.size, 4, none⟩ (.int .i64 qy)).setCell ⟨w.heap.size, 1, none⟩ (.int .i64 px)).setCell ⟨w.heap.size, 2, none⟩ (.int .i64 py))) := Lib.hid (((((kept1 _ w.heap.size 0 (.int .i64 2)).trans' (kept1 _ w.heap.size 3 (.int .i64 qx))).trans' (kept1 _ w.heap.size 4 (.int .i64 qy))).trans' (kept1 _ w.heap.size 1 (.int .i64 px))).trans' (kept1 _ w.heap.size 2 (.int .i64 py)))
              have HKW : Hid (Kept Nob w (((((w2.setCell ⟨w.heap.size, 0, none⟩ (.int .i64 2)).setCell ⟨w.heap.size, 3, none⟩ (.int .i64 qx)).setCell ⟨w.heap.size, 4, none⟩ (.int .i64 qy)).setCell ⟨w.heap.size, 1, none⟩ (.int .i64 px)).setCell ⟨w.heap.size, 2, none⟩ (.int .i64 py))) := Lib.hid (HK2.out.from (Nat.le_refl _) (HJW.out.mono fun j _ (h : j = w.heap.size) => Nat.le_of_eq h.symm))
              have HQ := Lib.hid (script_Query (((((w2.setCell ⟨w.heap.size, 0, none⟩ (.int .i64 2)).setCell ⟨w.heap.size, 3, none⟩ (.int .i64 qx)).setCell ⟨w.heap.size, 4, none⟩ (.int .i64 qy)).setCell ⟨w.heap.size, 1, none⟩ (.int .i64 px)).setCell ⟨w.heap.size, 2, none⟩ (.int .i64 py)) (2) (px) (py) (qx) (qy) (.slice none 0 0) [] _ (PtsAt.nils _ Nob) (by simp) (HE.out.kept HKW.out))
              rw [HQE.out] at HQ
              simp only [strV, htv.out] at HQ
              refine HQ.out.mono ?_
              rintro e w3 ⟨rfl, hk3⟩
              have HK3 := Lib.hid (HKW.out.then hk3)
              have HB3 := Lib.hid ((hk3.block w.heap.size (Array.getElem?_eq_some_iff.1 (show Blk6 _ _ _ _ _ _ _ _ _ from HBW.out)).1 (fun f => f)).trans (show Blk6 _ _ _ _ _ _ _ _ _ from HBW.out))
              clear c0 d0 d1 d2 d3 y0 y1 y2 y3 y4 y5 fy0 fy1 fy2 fy3 fy4 fy5
              have z0 := cell_at HB3.out 0 _ rfl
              have z1 := cell_at HB3.out 1 _ rfl
              have z2 := cell_at HB3.out 2 _ rfl
              have z3 := cell_at HB3.out 3 _ rfl
              have z4 := cell_at HB3.out 4 _ rfl
              have z5 := cell_at HB3.out 5 _ rfl
              have fz0 := frozen_at HB3.out 0
              have fz1 := frozen_at HB3.out 1
              have fz2 := frozen_at HB3.out 2
              have fz3 := frozen_at HB3.out 3
              have fz4 := frozen_at HB3.out 4
              have fz5 := frozen_at HB3.out 5
              have HE2 := Lib.hid (set6_fin (.int .i64 2) (.int .i64 px) (.int .i64 py) (.int .i64 qx) (.int .i64 qy) (.slice none 0 0) HB3.out HK3.out)
              have HPe : Hid (PtsAt (SIX w3 w.heap.size (.int .i64 2) (.int .i64 px) (.int .i64 py) (.int .i64 qx) (.int .i64 qy) (.slice none 0 0)) (.slice none 0 0) (qrOf 2 ((px, py) :: l)).ring (From w.heap.size)) := Lib.hid (by rw [← HQE.out]; exact PtsAt.nils _ _)
              clear hk3
              go_wp2_with fail
              exact bodyPost_cell2 (p := 2) (u := 3) (ty := 46) (g := w.heap.size) (by kernel_rfl) rfl HE2.out.1 Tryz.underlying46 rfl (by kernel_rfl) rfl (pq_yes (k := 2) (by omega) HOk.out HEq.out (by rw [HQV.out]; rfl) HPe.out HE2.out.2)
            case neg =>
              have hb1 : (tv.toList == sv.toList) = false := by rw [hlt, HLs.out]; exact beq_eq_false_iff_ne.2 heq
              have hbn : (tv.toList != sv.toList) = true := by simp [bne, hb1]
              have HN := Lib.hid (qr_no_text (by omega) HSk.out HRs.out heq)
              clear hlt heq
              go_wp2_with fail
              have HBW : Hid (Blk6 (((((w2.setCell ⟨w.heap.size, 0, none⟩ (.int .i64 2)).setCell ⟨w.heap.size, 3, none⟩ (.int .i64 qx)).setCell ⟨w.heap.size, 4, none⟩ (.int .i64 qy)).setCell ⟨w.heap.size, 1, none⟩ (.int .i64 px)).setCell ⟨w.heap.size, 2, none⟩ (.int .i64 py)) w.heap.size 46 (.int .i64 2) (.int .i64 px) (.int .i64 py) (.int .i64 qx) (.int .i64 qy) (.slice none 0 0)) := Lib.hid (heap_setCell_same _ w.heap.size 2 _ 46 (.int .i64 py) (heap_setCell_same _ w.heap.size 1 _ 46 (.int .i64 px) (heap_setCell_same _ w.heap.size 4 _ 46 (.int .i64 qy) (heap_setCell_same _ w.heap.size 3 _ 46 (.int .i64 qx) (heap_setCell_same _ w.heap.size 0 _ 46 (.int .i64 2) HB2.out)))))
              have HJW : Hid (Kept (Just w.heap.size) w2 (((((w2.setCell ⟨w.heap.size, 0, none⟩ (.int .i64 2)).setCell ⟨w.heap.size, 3, none⟩ (.int .i64 qx)).setCell ⟨w.heap.size, 4, none⟩ (.int .i64 qy)).setCell ⟨w.heap.size, 1, none⟩ (.int .i64 px)).setCell ⟨w.heap.size, 2, none⟩ (.int .i64 py))) := Lib.hid (((((kept1 _ w.heap.size 0 (.int .i64 2)).trans' (kept1 _ w.heap.size 3 (.int .i64 qx))).trans' (kept1 _ w.heap.size 4 (.int .i64 qy))).trans' (kept1 _ w.heap.size 1 (.int .i64 px))).trans' (kept1 _ w.heap.size 2 (.int .i64 py)))
              have HKW : Hid (Kept Nob w (((((w2.setCell ⟨w.heap.size, 0, none⟩ (.int .i64 2)).setCell ⟨w.heap.size, 3, none⟩ (.int .i64 qx)).setCell ⟨w.heap.size, 4, none⟩ (.int .i64 qy)).setCell ⟨w.heap.size, 1, none⟩ (.int .i64 px)).setCell ⟨w.heap.size, 2, none⟩ (.int .i64 py))) := Lib.hid (HK2.out.from (Nat.le_refl _) (HJW.out.mono fun j _ (h : j = w.heap.size) => Nat.le_of_eq h.symm))
              have HQ := Lib.hid (script_Query (((((w2.setCell ⟨w.heap.size, 0, none⟩ (.int .i64 2)).setCell ⟨w.heap.size, 3, none⟩ (.int .i64 qx)).setCell ⟨w.heap.size, 4, none⟩ (.int .i64 qy)).setCell ⟨w.heap.size, 1, none⟩ (.int .i64 px)).setCell ⟨w.heap.size, 2, none⟩ (.int .i64 py)) (2) (px) (py) (qx) (qy) (.slice none 0 0) [] _ (PtsAt.nils _ Nob) (by simp) (HE.out.kept HKW.out))
              rw [HQE.out] at HQ
              simp only [strV, htv.out] at HQ
              refine HQ.out.mono ?_
              rintro e w3 ⟨rfl, hk3⟩
              have HK3 := Lib.hid (HKW.out.then hk3)
              have HB3 := Lib.hid ((hk3.block w.heap.size (Array.getElem?_eq_some_iff.1 (show Blk6 _ _ _ _ _ _ _ _ _ from HBW.out)).1 (fun f => f)).trans (show Blk6 _ _ _ _ _ _ _ _ _ from HBW.out))
              clear hk3
              go_wp2_with fail
              refine (HBd _).out.mono ?_
              rintro e w9 ⟨ub, rfl, hf, hk9⟩
              have HKx := Lib.hid (HK3.out.then hk9)
              have HB9 := Lib.hid ((hk9.block w.heap.size (Array.getElem?_eq_some_iff.1 HB3.out).1 (fun f => f)).trans HB3.out)
              clear c0 d0 d1 d2 d3 y0 y1 y2 y3 y4 y5 fy0 fy1 fy2 fy3 fy4 fy5
              have z0 := cell_at HB9.out 0 _ rfl
              have z1 := cell_at HB9.out 1 _ rfl
              have z2 := cell_at HB9.out 2 _ rfl
              have z3 := cell_at HB9.out 3 _ rfl
              have z4 := cell_at HB9.out 4 _ rfl
              have z5 := cell_at HB9.out 5 _ rfl
              have fz0 := frozen_at HB9.out 0
              have fz1 := frozen_at HB9.out 1
              have fz2 := frozen_at HB9.out 2
              have fz3 := frozen_at HB9.out 3
              have fz4 := frozen_at HB9.out 4
              have fz5 := frozen_at HB9.out 5
              have HE2 := Lib.hid (set6_fin (.int .i64 0) (.int .i64 0) (.int .i64 0) (.int .i64 0) (.int .i64 0) (.slice none 0 0) HB9.out HKx.out)
              have HF := Lib.hid (fault6 (.int .i64 0) (.int .i64 0) (.int .i64 0) (.int .i64 0) (.int .i64 0) (.slice none 0 0) (Array.getElem?_eq_some_iff.1 HB3.out).1 hf)
              obtain ⟨gb, rfl, -⟩ := hf
              clear hk9
              go_wp2_with fail
              exact bodyPost_cell2 (p := 2) (u := 3) (ty := 46) (g := w.heap.size) (by kernel_rfl) rfl HE2.out.1 Tryz.underlying46 rfl (by kernel_rfl) rfl (.inr ⟨HN.out, _, rfl, HF.out, HE2.out.2⟩)
          case neg =>
            by_cases n3 : h = wHas
            case pos =>
              have t1 : (hv.toList == [109, 101, 101, 116, 115]) = false := (HI wMeets n1).out
              have t2 : (hv.toList == [105, 110, 115, 105, 100, 101]) = false := (HI wInside n2).out
              have t3 : (hv.toList == [104, 97, 115]) = true := (HJ wHas n3).out
              have HSk : Hid (sp s = qrWord 3 :: x :: r) := Lib.hid (by rw [HS.out, n3]; rfl)
              have HQE : Hid ((⟨3, ⟨(px, py), (0, 0)⟩, []⟩ : Qr) = qrOf 3 ((px, py) :: l)) := Lib.hid (by simp [qrOf])
              have HQV : Hid (qrVal (qrOf 3 ((px, py) :: l)) (.slice none 0 0) = .agg #[.int .i64 3, .int .i64 px, .int .i64 py, .int .i64 0, .int .i64 0, .slice none 0 0]) := Lib.hid (by rw [← HQE.out]; rfl)
              obtain ⟨tv, htv⟩ : ∃ u, (⟨(qrText (qrOf 3 ((px, py) :: l))).toArray⟩ : ByteArray) = u := ⟨_, rfl⟩
              replace htv := Lib.hid htv
              have hlt : tv.toList = qrText (qrOf 3 ((px, py) :: l)) := by rw [← htv.out, ByteArray.toList_eq]
              clear HI HJ n1 n2 n3
              by_cases heq : qrText (qrOf 3 ((px, py) :: l)) = s
              case pos =>
                have hb1 : (tv.toList == sv.toList) = true := by rw [hlt, HLs.out, heq]; exact beq_iff_eq.2 rfl
                have hbn : (tv.toList != sv.toList) = false := by simp [bne, hb1]
                have HOk := Lib.hid (qr_yes HSk.out heq)
                have HEq := Lib.hid heq
                clear hlt heq
                go_wp2_with fail
                have HBW : Hid (Blk6 (((w2.setCell ⟨w.heap.size, 0, none⟩ (.int .i64 3)).setCell ⟨w.heap.size, 1, none⟩ (.int .i64 px)).setCell ⟨w.heap.size, 2, none⟩ (.int .i64 py)) w.heap.size 46 (.int .i64 3) (.int .i64 px) (.int .i64 py) (.int .i64 0) (.int .i64 0) (.slice none 0 0)) := Lib.hid (heap_setCell_same _ w.heap.size 2 _ 46 (.int .i64 py) (heap_setCell_same _ w.heap.size 1 _ 46 (.int .i64 px) (heap_setCell_same _ w.heap.size 0 _ 46 (.int .i64 3) HB2.out)))
                have HJW : Hid (Kept (Just w.heap.size) w2 (((w2.setCell ⟨w.heap.size, 0, none⟩ (.int .i64 3)).setCell ⟨w.heap.size, 1, none⟩ (.int .i64 px)).setCell ⟨w.heap.size, 2, none⟩ (.int .i64 py))) := Lib.hid (((kept1 _ w.heap.size 0 (.int .i64 3)).trans' (kept1 _ w.heap.size 1 (.int .i64 px))).trans' (kept1 _ w.heap.size 2 (.int .i64 py)))
                have HKW : Hid (Kept Nob w (((w2.setCell ⟨w.heap.size, 0, none⟩ (.int .i64 3)).setCell ⟨w.heap.size, 1, none⟩ (.int .i64 px)).setCell ⟨w.heap.size, 2, none⟩ (.int .i64 py))) := Lib.hid (HK2.out.from (Nat.le_refl _) (HJW.out.mono fun j _ (h : j = w.heap.size) => Nat.le_of_eq h.symm))
                have HQ := Lib.hid (script_Query (((w2.setCell ⟨w.heap.size, 0, none⟩ (.int .i64 3)).setCell ⟨w.heap.size, 1, none⟩ (.int .i64 px)).setCell ⟨w.heap.size, 2, none⟩ (.int .i64 py)) (3) (px) (py) (0) (0) (.slice none 0 0) [] _ (PtsAt.nils _ Nob) (by simp) (HE.out.kept HKW.out))
                rw [HQE.out] at HQ
                simp only [strV, htv.out] at HQ
                refine HQ.out.mono ?_
                rintro e w3 ⟨rfl, hk3⟩
                have HK3 := Lib.hid (HKW.out.then hk3)
                have HB3 := Lib.hid ((hk3.block w.heap.size (Array.getElem?_eq_some_iff.1 (show Blk6 _ _ _ _ _ _ _ _ _ from HBW.out)).1 (fun f => f)).trans (show Blk6 _ _ _ _ _ _ _ _ _ from HBW.out))
                clear c0 d0 d1 d2 d3 y0 y1 y2 y3 y4 y5 fy0 fy1 fy2 fy3 fy4 fy5
                have z0 := cell_at HB3.out 0 _ rfl
                have z1 := cell_at HB3.out 1 _ rfl
                have z2 := cell_at HB3.out 2 _ rfl
                have z3 := cell_at HB3.out 3 _ rfl
                have z4 := cell_at HB3.out 4 _ rfl
                have z5 := cell_at HB3.out 5 _ rfl
                have fz0 := frozen_at HB3.out 0
                have fz1 := frozen_at HB3.out 1
                have fz2 := frozen_at HB3.out 2
                have fz3 := frozen_at HB3.out 3
                have fz4 := frozen_at HB3.out 4
                have fz5 := frozen_at HB3.out 5
                have HE2 := Lib.hid (set6_fin (.int .i64 3) (.int .i64 px) (.int .i64 py) (.int .i64 0) (.int .i64 0) (.slice none 0 0) HB3.out HK3.out)
                have HPe : Hid (PtsAt (SIX w3 w.heap.size (.int .i64 3) (.int .i64 px) (.int .i64 py) (.int .i64 0) (.int .i64 0) (.slice none 0 0)) (.slice none 0 0) (qrOf 3 ((px, py) :: l)).ring (From w.heap.size)) := Lib.hid (by rw [← HQE.out]; exact PtsAt.nils _ _)
                clear hk3
                go_wp2_with fail
                exact bodyPost_cell2 (p := 2) (u := 3) (ty := 46) (g := w.heap.size) (by kernel_rfl) rfl HE2.out.1 Tryz.underlying46 rfl (by kernel_rfl) rfl (pq_yes (k := 3) (by omega) HOk.out HEq.out (by rw [HQV.out]; rfl) HPe.out HE2.out.2)
              case neg =>
                have hb1 : (tv.toList == sv.toList) = false := by rw [hlt, HLs.out]; exact beq_eq_false_iff_ne.2 heq
                have hbn : (tv.toList != sv.toList) = true := by simp [bne, hb1]
                have HN := Lib.hid (qr_no_text (by omega) HSk.out HRs.out heq)
                clear hlt heq
                go_wp2_with fail
                have HBW : Hid (Blk6 (((w2.setCell ⟨w.heap.size, 0, none⟩ (.int .i64 3)).setCell ⟨w.heap.size, 1, none⟩ (.int .i64 px)).setCell ⟨w.heap.size, 2, none⟩ (.int .i64 py)) w.heap.size 46 (.int .i64 3) (.int .i64 px) (.int .i64 py) (.int .i64 0) (.int .i64 0) (.slice none 0 0)) := Lib.hid (heap_setCell_same _ w.heap.size 2 _ 46 (.int .i64 py) (heap_setCell_same _ w.heap.size 1 _ 46 (.int .i64 px) (heap_setCell_same _ w.heap.size 0 _ 46 (.int .i64 3) HB2.out)))
                have HJW : Hid (Kept (Just w.heap.size) w2 (((w2.setCell ⟨w.heap.size, 0, none⟩ (.int .i64 3)).setCell ⟨w.heap.size, 1, none⟩ (.int .i64 px)).setCell ⟨w.heap.size, 2, none⟩ (.int .i64 py))) := Lib.hid (((kept1 _ w.heap.size 0 (.int .i64 3)).trans' (kept1 _ w.heap.size 1 (.int .i64 px))).trans' (kept1 _ w.heap.size 2 (.int .i64 py)))
                have HKW : Hid (Kept Nob w (((w2.setCell ⟨w.heap.size, 0, none⟩ (.int .i64 3)).setCell ⟨w.heap.size, 1, none⟩ (.int .i64 px)).setCell ⟨w.heap.size, 2, none⟩ (.int .i64 py))) := Lib.hid (HK2.out.from (Nat.le_refl _) (HJW.out.mono fun j _ (h : j = w.heap.size) => Nat.le_of_eq h.symm))
                have HQ := Lib.hid (script_Query (((w2.setCell ⟨w.heap.size, 0, none⟩ (.int .i64 3)).setCell ⟨w.heap.size, 1, none⟩ (.int .i64 px)).setCell ⟨w.heap.size, 2, none⟩ (.int .i64 py)) (3) (px) (py) (0) (0) (.slice none 0 0) [] _ (PtsAt.nils _ Nob) (by simp) (HE.out.kept HKW.out))
                rw [HQE.out] at HQ
                simp only [strV, htv.out] at HQ
                refine HQ.out.mono ?_
                rintro e w3 ⟨rfl, hk3⟩
                have HK3 := Lib.hid (HKW.out.then hk3)
                have HB3 := Lib.hid ((hk3.block w.heap.size (Array.getElem?_eq_some_iff.1 (show Blk6 _ _ _ _ _ _ _ _ _ from HBW.out)).1 (fun f => f)).trans (show Blk6 _ _ _ _ _ _ _ _ _ from HBW.out))
                clear hk3
                go_wp2_with fail
                refine (HBd _).out.mono ?_
                rintro e w9 ⟨ub, rfl, hf, hk9⟩
                have HKx := Lib.hid (HK3.out.then hk9)
                have HB9 := Lib.hid ((hk9.block w.heap.size (Array.getElem?_eq_some_iff.1 HB3.out).1 (fun f => f)).trans HB3.out)
                clear c0 d0 d1 d2 d3 y0 y1 y2 y3 y4 y5 fy0 fy1 fy2 fy3 fy4 fy5
                have z0 := cell_at HB9.out 0 _ rfl
                have z1 := cell_at HB9.out 1 _ rfl
                have z2 := cell_at HB9.out 2 _ rfl
                have z3 := cell_at HB9.out 3 _ rfl
                have z4 := cell_at HB9.out 4 _ rfl
                have z5 := cell_at HB9.out 5 _ rfl
                have fz0 := frozen_at HB9.out 0
                have fz1 := frozen_at HB9.out 1
                have fz2 := frozen_at HB9.out 2
                have fz3 := frozen_at HB9.out 3
                have fz4 := frozen_at HB9.out 4
                have fz5 := frozen_at HB9.out 5
                have HE2 := Lib.hid (set6_fin (.int .i64 0) (.int .i64 0) (.int .i64 0) (.int .i64 0) (.int .i64 0) (.slice none 0 0) HB9.out HKx.out)
                have HF := Lib.hid (fault6 (.int .i64 0) (.int .i64 0) (.int .i64 0) (.int .i64 0) (.int .i64 0) (.slice none 0 0) (Array.getElem?_eq_some_iff.1 HB3.out).1 hf)
                obtain ⟨gb, rfl, -⟩ := hf
                clear hk9
                go_wp2_with fail
                exact bodyPost_cell2 (p := 2) (u := 3) (ty := 46) (g := w.heap.size) (by kernel_rfl) rfl HE2.out.1 Tryz.underlying46 rfl (by kernel_rfl) rfl (.inr ⟨HN.out, _, rfl, HF.out, HE2.out.2⟩)
            case neg =>
              by_cases n4 : h = wCross
              case pos =>
                have t1 : (hv.toList == [109, 101, 101, 116, 115]) = false := (HI wMeets n1).out
                have t2 : (hv.toList == [105, 110, 115, 105, 100, 101]) = false := (HI wInside n2).out
                have t3 : (hv.toList == [104, 97, 115]) = false := (HI wHas n3).out
                have t4 : (hv.toList == [99, 114, 111, 115, 115]) = true := (HJ wCross n4).out
                have HSk : Hid (sp s = qrWord 4 :: x :: r) := Lib.hid (by rw [HS.out, n4]; rfl)
                have HQE : Hid ((⟨4, ⟨(0, 0), (0, 0)⟩, ((px, py) :: l)⟩ : Qr) = qrOf 4 ((px, py) :: l)) := Lib.hid (by simp [qrOf])
                have HQV : Hid (qrVal (qrOf 4 ((px, py) :: l)) (.slice (some ⟨pb, po, none⟩) (l.length + 1) uc) = .agg #[.int .i64 4, .int .i64 0, .int .i64 0, .int .i64 0, .int .i64 0, .slice (some ⟨pb, po, none⟩) (l.length + 1) uc]) := Lib.hid (by rw [← HQE.out]; rfl)
                obtain ⟨tv, htv⟩ : ∃ u, (⟨(qrText (qrOf 4 ((px, py) :: l))).toArray⟩ : ByteArray) = u := ⟨_, rfl⟩
                replace htv := Lib.hid htv
                have hlt : tv.toList = qrText (qrOf 4 ((px, py) :: l)) := by rw [← htv.out, ByteArray.toList_eq]
                clear HI HJ n1 n2 n3 n4
                by_cases heq : qrText (qrOf 4 ((px, py) :: l)) = s
                case pos =>
                  have hb1 : (tv.toList == sv.toList) = true := by rw [hlt, HLs.out, heq]; exact beq_iff_eq.2 rfl
                  have hbn : (tv.toList != sv.toList) = false := by simp [bne, hb1]
                  have HOk := Lib.hid (qr_yes HSk.out heq)
                  have HEq := Lib.hid heq
                  clear hlt heq
                  go_wp2_with fail
                  have HBW : Hid (Blk6 ((w2.setCell ⟨w.heap.size, 0, none⟩ (.int .i64 4)).setCell ⟨w.heap.size, 5, none⟩ (.slice (some ⟨pb, po, none⟩) (l.length + 1) uc)) w.heap.size 46 (.int .i64 4) (.int .i64 0) (.int .i64 0) (.int .i64 0) (.int .i64 0) (.slice (some ⟨pb, po, none⟩) (l.length + 1) uc)) := Lib.hid (heap_setCell_same _ w.heap.size 5 _ 46 (.slice (some ⟨pb, po, none⟩) (l.length + 1) uc) (heap_setCell_same _ w.heap.size 0 _ 46 (.int .i64 4) HB2.out))
                  have HJW : Hid (Kept (Just w.heap.size) w2 ((w2.setCell ⟨w.heap.size, 0, none⟩ (.int .i64 4)).setCell ⟨w.heap.size, 5, none⟩ (.slice (some ⟨pb, po, none⟩) (l.length + 1) uc))) := Lib.hid ((kept1 _ w.heap.size 0 (.int .i64 4)).trans' (kept1 _ w.heap.size 5 (.slice (some ⟨pb, po, none⟩) (l.length + 1) uc)))
                  have HKW : Hid (Kept Nob w ((w2.setCell ⟨w.heap.size, 0, none⟩ (.int .i64 4)).setCell ⟨w.heap.size, 5, none⟩ (.slice (some ⟨pb, po, none⟩) (l.length + 1) uc))) := Lib.hid (HK2.out.from (Nat.le_refl _) (HJW.out.mono fun j _ (h : j = w.heap.size) => Nat.le_of_eq h.symm))
                  have HQ := Lib.hid (script_Query ((w2.setCell ⟨w.heap.size, 0, none⟩ (.int .i64 4)).setCell ⟨w.heap.size, 5, none⟩ (.slice (some ⟨pb, po, none⟩) (l.length + 1) uc)) (4) (0) (0) (0) (0) (.slice (some ⟨pb, po, none⟩) (l.length + 1) uc) ((px, py) :: l) _ (HPt.out.kept HJW.out (fun j (h1 : w1.heap.size ≤ j) (h2 : j = w.heap.size) => by omega)) (by have := HLl.out; simp only [List.length_cons] at *; omega) (HE.out.kept HKW.out))
                  rw [HQE.out] at HQ
                  simp only [strV, htv.out] at HQ
                  refine HQ.out.mono ?_
                  rintro e w3 ⟨rfl, hk3⟩
                  have HK3 := Lib.hid (HKW.out.then hk3)
                  have HB3 := Lib.hid ((hk3.block w.heap.size (Array.getElem?_eq_some_iff.1 (show Blk6 _ _ _ _ _ _ _ _ _ from HBW.out)).1 (fun f => f)).trans (show Blk6 _ _ _ _ _ _ _ _ _ from HBW.out))
                  clear c0 d0 d1 d2 d3 y0 y1 y2 y3 y4 y5 fy0 fy1 fy2 fy3 fy4 fy5
                  have z0 := cell_at HB3.out 0 _ rfl
                  have z1 := cell_at HB3.out 1 _ rfl
                  have z2 := cell_at HB3.out 2 _ rfl
                  have z3 := cell_at HB3.out 3 _ rfl
                  have z4 := cell_at HB3.out 4 _ rfl
                  have z5 := cell_at HB3.out 5 _ rfl
                  have fz0 := frozen_at HB3.out 0
                  have fz1 := frozen_at HB3.out 1
                  have fz2 := frozen_at HB3.out 2
                  have fz3 := frozen_at HB3.out 3
                  have fz4 := frozen_at HB3.out 4
                  have fz5 := frozen_at HB3.out 5
                  have HE2 := Lib.hid (set6_fin (.int .i64 4) (.int .i64 0) (.int .i64 0) (.int .i64 0) (.int .i64 0) (.slice (some ⟨pb, po, none⟩) (l.length + 1) uc) HB3.out HK3.out)
                  have HPe : Hid (PtsAt (SIX w3 w.heap.size (.int .i64 4) (.int .i64 0) (.int .i64 0) (.int .i64 0) (.int .i64 0) (.slice (some ⟨pb, po, none⟩) (l.length + 1) uc)) (.slice (some ⟨pb, po, none⟩) (l.length + 1) uc) (qrOf 4 ((px, py) :: l)).ring (From w.heap.size)) := Lib.hid (by rw [← HQE.out]; exact pts6 (.int .i64 4) (.int .i64 0) (.int .i64 0) (.int .i64 0) (.int .i64 0) (.slice (some ⟨pb, po, none⟩) (l.length + 1) uc) hgl ((HPt.out.kept HJW.out (fun j (h1 : w1.heap.size ≤ j) (h2 : j = w.heap.size) => by omega)).nob hk3))
                  clear hk3
                  go_wp2_with fail
                  exact bodyPost_cell2 (p := 2) (u := 3) (ty := 46) (g := w.heap.size) (by kernel_rfl) rfl HE2.out.1 Tryz.underlying46 rfl (by kernel_rfl) rfl (pq_yes (k := 4) (by omega) HOk.out HEq.out (by rw [HQV.out]; rfl) HPe.out HE2.out.2)
                case neg =>
                  have hb1 : (tv.toList == sv.toList) = false := by rw [hlt, HLs.out]; exact beq_eq_false_iff_ne.2 heq
                  have hbn : (tv.toList != sv.toList) = true := by simp [bne, hb1]
                  have HN := Lib.hid (qr_no_text (by omega) HSk.out HRs.out heq)
                  clear hlt heq
                  go_wp2_with fail
                  have HBW : Hid (Blk6 ((w2.setCell ⟨w.heap.size, 0, none⟩ (.int .i64 4)).setCell ⟨w.heap.size, 5, none⟩ (.slice (some ⟨pb, po, none⟩) (l.length + 1) uc)) w.heap.size 46 (.int .i64 4) (.int .i64 0) (.int .i64 0) (.int .i64 0) (.int .i64 0) (.slice (some ⟨pb, po, none⟩) (l.length + 1) uc)) := Lib.hid (heap_setCell_same _ w.heap.size 5 _ 46 (.slice (some ⟨pb, po, none⟩) (l.length + 1) uc) (heap_setCell_same _ w.heap.size 0 _ 46 (.int .i64 4) HB2.out))
                  have HJW : Hid (Kept (Just w.heap.size) w2 ((w2.setCell ⟨w.heap.size, 0, none⟩ (.int .i64 4)).setCell ⟨w.heap.size, 5, none⟩ (.slice (some ⟨pb, po, none⟩) (l.length + 1) uc))) := Lib.hid ((kept1 _ w.heap.size 0 (.int .i64 4)).trans' (kept1 _ w.heap.size 5 (.slice (some ⟨pb, po, none⟩) (l.length + 1) uc)))
                  have HKW : Hid (Kept Nob w ((w2.setCell ⟨w.heap.size, 0, none⟩ (.int .i64 4)).setCell ⟨w.heap.size, 5, none⟩ (.slice (some ⟨pb, po, none⟩) (l.length + 1) uc))) := Lib.hid (HK2.out.from (Nat.le_refl _) (HJW.out.mono fun j _ (h : j = w.heap.size) => Nat.le_of_eq h.symm))
                  have HQ := Lib.hid (script_Query ((w2.setCell ⟨w.heap.size, 0, none⟩ (.int .i64 4)).setCell ⟨w.heap.size, 5, none⟩ (.slice (some ⟨pb, po, none⟩) (l.length + 1) uc)) (4) (0) (0) (0) (0) (.slice (some ⟨pb, po, none⟩) (l.length + 1) uc) ((px, py) :: l) _ (HPt.out.kept HJW.out (fun j (h1 : w1.heap.size ≤ j) (h2 : j = w.heap.size) => by omega)) (by have := HLl.out; simp only [List.length_cons] at *; omega) (HE.out.kept HKW.out))
                  rw [HQE.out] at HQ
                  simp only [strV, htv.out] at HQ
                  refine HQ.out.mono ?_
                  rintro e w3 ⟨rfl, hk3⟩
                  have HK3 := Lib.hid (HKW.out.then hk3)
                  have HB3 := Lib.hid ((hk3.block w.heap.size (Array.getElem?_eq_some_iff.1 (show Blk6 _ _ _ _ _ _ _ _ _ from HBW.out)).1 (fun f => f)).trans (show Blk6 _ _ _ _ _ _ _ _ _ from HBW.out))
                  clear hk3
                  go_wp2_with fail
                  refine (HBd _).out.mono ?_
                  rintro e w9 ⟨ub, rfl, hf, hk9⟩
                  have HKx := Lib.hid (HK3.out.then hk9)
                  have HB9 := Lib.hid ((hk9.block w.heap.size (Array.getElem?_eq_some_iff.1 HB3.out).1 (fun f => f)).trans HB3.out)
                  clear c0 d0 d1 d2 d3 y0 y1 y2 y3 y4 y5 fy0 fy1 fy2 fy3 fy4 fy5
                  have z0 := cell_at HB9.out 0 _ rfl
                  have z1 := cell_at HB9.out 1 _ rfl
                  have z2 := cell_at HB9.out 2 _ rfl
                  have z3 := cell_at HB9.out 3 _ rfl
                  have z4 := cell_at HB9.out 4 _ rfl
                  have z5 := cell_at HB9.out 5 _ rfl
                  have fz0 := frozen_at HB9.out 0
                  have fz1 := frozen_at HB9.out 1
                  have fz2 := frozen_at HB9.out 2
                  have fz3 := frozen_at HB9.out 3
                  have fz4 := frozen_at HB9.out 4
                  have fz5 := frozen_at HB9.out 5
                  have HE2 := Lib.hid (set6_fin (.int .i64 0) (.int .i64 0) (.int .i64 0) (.int .i64 0) (.int .i64 0) (.slice none 0 0) HB9.out HKx.out)
                  have HF := Lib.hid (fault6 (.int .i64 0) (.int .i64 0) (.int .i64 0) (.int .i64 0) (.int .i64 0) (.slice none 0 0) (Array.getElem?_eq_some_iff.1 HB3.out).1 hf)
                  obtain ⟨gb, rfl, -⟩ := hf
                  clear hk9
                  go_wp2_with fail
                  exact bodyPost_cell2 (p := 2) (u := 3) (ty := 46) (g := w.heap.size) (by kernel_rfl) rfl HE2.out.1 Tryz.underlying46 rfl (by kernel_rfl) rfl (.inr ⟨HN.out, _, rfl, HF.out, HE2.out.2⟩)
              case neg =>
                have t1 : (hv.toList == [109, 101, 101, 116, 115]) = false := (HI wMeets n1).out
                have t2 : (hv.toList == [105, 110, 115, 105, 100, 101]) = false := (HI wInside n2).out
                have t3 : (hv.toList == [104, 97, 115]) = false := (HI wHas n3).out
                have t4 : (hv.toList == [99, 114, 111, 115, 115]) = false := (HI wCross n4).out
                have HN := Lib.hid (qr_no_word HS.out n1 n2 n3 n4)
                clear HI HJ n1 n2 n3 n4
                go_wp2_with fail
                have HBW : Hid (Blk6 ((w2.setCell ⟨w.heap.size, 1, none⟩ (.int .i64 px)).setCell ⟨w.heap.size, 2, none⟩ (.int .i64 py)) w.heap.size 46 (.int .i64 0) (.int .i64 px) (.int .i64 py) (.int .i64 0) (.int .i64 0) (.slice none 0 0)) := Lib.hid (heap_setCell_same _ w.heap.size 2 _ 46 (.int .i64 py) (heap_setCell_same _ w.heap.size 1 _ 46 (.int .i64 px) HB2.out))
                have HJW : Hid (Kept (Just w.heap.size) w2 ((w2.setCell ⟨w.heap.size, 1, none⟩ (.int .i64 px)).setCell ⟨w.heap.size, 2, none⟩ (.int .i64 py))) := Lib.hid ((kept1 _ w.heap.size 1 (.int .i64 px)).trans' (kept1 _ w.heap.size 2 (.int .i64 py)))
                have HKW : Hid (Kept Nob w ((w2.setCell ⟨w.heap.size, 1, none⟩ (.int .i64 px)).setCell ⟨w.heap.size, 2, none⟩ (.int .i64 py))) := Lib.hid (HK2.out.from (Nat.le_refl _) (HJW.out.mono fun j _ (h : j = w.heap.size) => Nat.le_of_eq h.symm))
                refine (HBd _).out.mono ?_
                rintro e w9 ⟨ub, rfl, hf, hk9⟩
                have HKx := Lib.hid (HKW.out.then hk9)
                have HB9 := Lib.hid ((hk9.block w.heap.size (Array.getElem?_eq_some_iff.1 (id HBW.out : Blk6 _ _ _ _ _ _ _ _ _)).1 (fun f => f)).trans (id HBW.out : Blk6 _ _ _ _ _ _ _ _ _))
                clear c0 d0 d1 d2 d3 y0 y1 y2 y3 y4 y5 fy0 fy1 fy2 fy3 fy4 fy5
                have z0 := cell_at HB9.out 0 _ rfl
                have z1 := cell_at HB9.out 1 _ rfl
                have z2 := cell_at HB9.out 2 _ rfl
                have z3 := cell_at HB9.out 3 _ rfl
                have z4 := cell_at HB9.out 4 _ rfl
                have z5 := cell_at HB9.out 5 _ rfl
                have fz0 := frozen_at HB9.out 0
                have fz1 := frozen_at HB9.out 1
                have fz2 := frozen_at HB9.out 2
                have fz3 := frozen_at HB9.out 3
                have fz4 := frozen_at HB9.out 4
                have fz5 := frozen_at HB9.out 5
                have HE2 := Lib.hid (set6_fin (.int .i64 0) (.int .i64 0) (.int .i64 0) (.int .i64 0) (.int .i64 0) (.slice none 0 0) HB9.out HKx.out)
                have HF := Lib.hid (fault6 (.int .i64 0) (.int .i64 0) (.int .i64 0) (.int .i64 0) (.int .i64 0) (.slice none 0 0) (Array.getElem?_eq_some_iff.1 (id HBW.out : Blk6 _ _ _ _ _ _ _ _ _)).1 hf)
                obtain ⟨gb, rfl, -⟩ := hf
                clear hk9
                go_wp2_with fail
                exact bodyPost_cell2 (p := 2) (u := 3) (ty := 46) (g := w.heap.size) (by kernel_rfl) rfl HE2.out.1 Tryz.underlying46 rfl (by kernel_rfl) rfl (.inr ⟨HN.out, _, rfl, HF.out, HE2.out.2⟩)
end Go.Proofs.YthjiobmglebmdaaGreatDoor
