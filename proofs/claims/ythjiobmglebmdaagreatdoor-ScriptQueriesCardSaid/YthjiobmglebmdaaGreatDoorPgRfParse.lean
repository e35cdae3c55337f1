/- The document's own objects, read. -/
import Derived.Test.YthjiobmglebmdaaGreatDoorPgRfObj
namespace Go.Proofs.YthjiobmglebmdaaGreatDoor
open Go.RowKit
open Go.Proofs.YthjiobmglebmdaaGreatDoor.Geo Go.Proofs.YthjiobmglebmdaaGreatDoor.Txt

theorem obRes_num {s x y : List UInt8} (hs : sp s = [wInterval, x, y]) {a b : Int} {ba bb : Bool} (ha : NumRes x a ba) (hb : NumRes y b bb) : ObRes s 2 [(a, b)] (ba && bb) := fun ob ho he => by
  have := ObRes.words ho he
  rw [hs, List.cons.injEq] at this
  have hk : ob.kind = 2 := by
    have hw := this.1
    rcases ho.four with e | e | e | e <;> rw [e] at hw ⊢ <;> exact absurd hw (by decide)
  have ht := this.2
  have hok := ho.pts_ok
  rcases ho with ⟨h, _⟩ | ⟨_, p, hpp, hp, _⟩ | ⟨h, _⟩ | ⟨h, _⟩
  · omega
  · unfold obTail at ht
    rw [if_pos hk, hpp] at ht
    simp only [List.map_cons, List.map_nil, List.flatten_cons, List.flatten_nil, List.append_nil, List.cons.injEq, and_true] at ht
    rw [ok_iff] at hp
    obtain ⟨rfl, rfl⟩ := ha.2 p.1 (by omega) (by omega) ht.1
    obtain ⟨rfl, rfl⟩ := hb.2 p.2 (by omega) (by omega) ht.2
    exact ⟨hk.symm, by rw [hpp], rfl⟩
  · omega
  · omega
/-- s[1:] of a row -/
theorem Reads.tailc {w : World} {b n c : Nat} {x : Value} {xs : List Value} {F : Nat → Prop} (h : Reads w (.slice (some ⟨b, 0, none⟩) n c) (x :: xs) F) : Reads w (.slice (some (if c = 1 then ⟨b, 0, none⟩ else ⟨b, 1, none⟩)) (n - 1) (c - 1)) xs F := by
  have hn := h.len
  simp only [List.length_cons] at hn
  cases xs with
  | nil =>
    simp only [List.length_nil] at hn
    subst hn
    exact .inl ⟨rfl, _, _, rfl, fun h => by cases h⟩
  | cons y r =>
    simp only [List.length_cons] at hn
    have hc : n ≤ c := by
      rcases h with ⟨h, _⟩ | ⟨b', o, cap, hv, hc, _⟩
      · cases h
      · simp at hv; simp at hc; omega
    rw [if_neg (by omega)]
    have := h.dropped 1 (by simp)
    simpa using this
/-- how the document reads a text as an object -/
def RParse (w : World) (s : List UInt8) (e : Ending) (w' : World) : Prop :=
  (∃ ob u, ObOk ob ∧ obText ob = s ∧ e = .returned (.tuple #[.agg #[.int .i64 ob.kind, u], .int .i64 0]) ∧ PtsAt w' u ob.pts (From w.heap.size) ∧ Kept Nob w w') ∨
  ((∀ ob, ObOk ob → obText ob ≠ s) ∧ e = .returned (.tuple #[.agg #[.int .i64 0, .slice none 0 0], .int .i64 10]) ∧ Kept Nob w w')
theorem obRes_none {s : List UInt8} {k : Int} {l : List Pt} (h : ObRes s k l false) : ∀ ob, ObOk ob → obText ob ≠ s := fun ob ho e => by
  have := (h ob ho e.symm).2.2
  cases this
theorem obRes_other {s : List UInt8} {k : Int} {l : List Pt} {b : Bool} (h : ObRes s k l b) (hn : obText ⟨k, l⟩ ≠ s) : ∀ ob, ObOk ob → obText ob ≠ s := fun ob ho e => by
  obtain ⟨rfl, rfl, _⟩ := h ob ho e.symm
  exact hn e
theorem ob_many {s : List UInt8} (h : 70 < (sp s).length) : ∀ ob, ObOk ob → obText ob ≠ s := fun ob ho e => by
  rw [← e, sp_obText ho] at h
  have := ho.len
  unfold obWords at h
  split at h
  · rcases ho with ⟨h1, _⟩ | ⟨_, p, hp, _⟩ | ⟨h1, _⟩ | ⟨h1, _⟩
    · omega
    · rw [hp] at h; simp at h
    · omega
    · omega
  · simp at h; omega
theorem pt_new (w : World) (a b : Int) {n : Nat} (hn : n ≤ w.heap.size) : PtsAt (w.alloc (.cells #[.int .i64 a, .int .i64 b] 42)) (.slice (some ⟨w.heap.size, 0, none⟩) 1 1) [(a, b)] (From n) := by
  refine ⟨rfl, .inr ⟨w.heap.size, 0, 1, rfl, Nat.le_refl _, by simp, hn, fun i x hx => ?_⟩⟩
  rw [Nat.zero_add]
  exact cell_at (Go.heap_alloc_new w _) i x (by simpa [ptCells] using hx)
/-- the two objects behind the call of Object -/
theorem rp_fin {w w1 w2 w3 : World} {T : TypeId} {k : Value} {ua : Option Addr} {n uc : Nat} {l : List Pt} (hg : w.heap.size < w1.heap.size) (h2 : w2.heap[w.heap.size]? = some (.cells #[.int .i64 0, .slice none 0 0] T (0, 0)))
    (h5 : w2.heap[w1.heap.size]? = some (.cells #[k, .slice none 0 0] T (0, 0))) (hp : PtsAt w2 (.slice ua n uc) l (From (w1.heap.size + 1))) (hk : Kept Nob w w2) (hk3 : Kept Nob (w2.setCell ⟨w1.heap.size, 1, none⟩ (.slice ua n uc)) w3) :
    w3.heap[w.heap.size]? = some (.cells #[.int .i64 0, .slice none 0 0] T (0, 0)) ∧ w3.heap[w1.heap.size]? = some (.cells #[k, .slice ua n uc] T (0, 0)) ∧ PtsAt w3 (.slice ua n uc) l (From (w1.heap.size + 1)) ∧ Kept Nob w w3 := by
  have kk := kept1 w2 w1.heap.size 1 (.slice ua n uc)
  have hs : w.heap.size < w2.heap.size := (Array.getElem?_eq_some_iff.1 h2).1
  have hs1 : w1.heap.size < w2.heap.size := (Array.getElem?_eq_some_iff.1 h5).1
  refine ⟨?_, ?_, ?_, ?_⟩
  · rw [hk3.block _ (by simpa using hs) (fun f => f), kk.block _ hs (fun (e : w.heap.size = w1.heap.size) => by omega)]
    exact h2
  · rw [hk3.block _ (by simpa using hs1) (fun f => f)]
    exact Go.heap_setCell_same _ _ 1 _ T _ h5
  · exact (hp.kept kk (fun j (h1 : w1.heap.size + 1 ≤ j) (h2 : j = w1.heap.size) => by omega)).nob hk3
  · exact (hk.from (Nat.le_refl _) (kk.mono fun j _ (h : j = w1.heap.size) => show w.heap.size ≤ j by omega)).then hk3
set_option maxRecDepth 100000 in
set_option maxHeartbeats 8000000 in
theorem ref_Parse (w : World) (s : List UInt8) (hs : s.length ≤ 400000) :
    Calls Tryz.prog 21 #[strV s] w (RParse w s) := by
  have hlen := sp_len s
  have HSp := fun (wx : World) => Lib.hid (ref_split wx s (by omega))
  obtain ⟨h, t, hht⟩ : ∃ h t, sp s = h :: t := by
    cases hsp : sp s with
    | nil => exact absurd hsp (sp_ne s)
    | cons h t => exact ⟨h, t, rfl⟩
  have HS := Lib.hid hht
  rw [hht] at hlen
  have HL := Lib.hid hlen
  have hl1 : (sp s).length = t.length + 1 := by rw [hht]; rfl
  have hn1 : t.length + 1 ≤ s.length + 1 := by simpa using hlen.1
  have HMany : Hid (70 < t.length + 1 → ∀ ob, ObOk ob → obText ob ≠ s) := Lib.hid (fun hm => ob_many (by rw [hl1]; exact hm))
  have HPts := fun (wx : World) (v : Value) (F : Nat → Prop) (hr : Reads wx v (t.map strV) F) => Lib.hid (ref_points wx v t F hr (by omega) (fun x hx => by have := hlen.2 x (by simp [hx]); omega))
  have HOb := fun (wx : World) (k : Int) (v : Value) (l : List Pt) (F : Nat → Prop) (hp : PtsAt wx v l F) (hl : l.length < 1000000000) => Lib.hid (ref_Object wx k v l F hp hl)
  simp only [hht, List.map_cons] at HSp
  clear hlen hht hl1
  obtain ⟨sv, hsv⟩ : ∃ u, (⟨s.toArray⟩ : ByteArray) = u := ⟨_, rfl⟩
  obtain ⟨hv, hhv⟩ : ∃ u, (⟨h.toArray⟩ : ByteArray) = u := ⟨_, rfl⟩
  unfold strV at HOb
  simp only [strV, hsv, hhv] at HSp ⊢
  have HHv := Lib.hid hhv
  have HSv := Lib.hid hsv
  clear hsv hhv
  go_enter Tryz.func21, Tryz.ntmps21
  go_wp2_with fail
  refine (HSp _).out.mono ?_
  rintro e w1 ⟨bo, cc, rfl, hown, hk1⟩
  obtain ⟨g, rfl⟩ := own_some hown (by simp)
  have bb := new1 hk1
  have c0 := cell_at bb 0 _ rfl
  have c1 := cell_at bb 1 _ rfl
  have f0 := frozen_at bb 0
  have f1 := frozen_at bb 1
  have hgl : w.heap.size < w1.heap.size := cell_lt (a := ⟨w.heap.size, 0, none⟩) c0
  have BB := Lib.hid bb
  have hgw : w.heap.size < g := by
    have := hown.2 g rfl
    simp [From] at this
    omega
  have HOw := Lib.hid hown
  have HK := Lib.hid ((Kept.alloc Nob w _).then hk1)
  clear bb hk1 hown HSp
  by_cases hmany : 70 < t.length + 1
  · have HN := Lib.hid (HMany.out hmany)
    have HF := Lib.hid (objn_fin (.int .i64 0) (.slice none 0 0) BB.out HK.out)
    go_wp2_with fail
    exact bodyPost_cell2 (p := 2) (u := 3) (ty := 26) (g := w.heap.size) (by kernel_rfl) rfl HF.out.1 Tryz.underlying26 rfl (by kernel_rfl) rfl (.inr ⟨HN.out, rfl, HF.out.2⟩)
  have w0 := HOw.out.cell 0 _ rfl
  have hg1 : g < w1.heap.size := cell_lt (a := ⟨g, 0, none⟩) w0
  clear HMany
  by_cases hh1 : h = wPoint
  · subst hh1
    have hv1 : hv = ⟨#[112, 111, 105, 110, 116]⟩ := HHv.out.symm
    subst hv1
    have HR := fun (l : List Pt) (b : Bool) (hp : PtsRes t l b) => Lib.hid (obRes_plain (k := 1) (.inl rfl) HS.out hp)
    by_cases hcc : cc = 1
    · subst hcc
      have ht0 : t = [] := by
        rcases HOw.out.shape with ⟨e, _⟩ | ⟨_, _, _, e, _, _, hc, _⟩
        · cases e
        · simp at e hc
          exact List.length_eq_zero_iff.1 (by omega)
      subst ht0
      have HTl := Lib.hid HOw.out.reads.tailc
      rw [if_pos rfl] at HTl
      simp only [List.length_cons, List.length_nil, Nat.zero_add, Nat.sub_self] at HTl
      go_wp2_with fail
      refine (HPts _ _ _ (HTl.out.alloc _)).out.mono ?_
      rintro e w2 ⟨u, b1, l, rfl, hp, hll, hres, hk2⟩
      obtain ⟨ua, uc, rfl⟩ := hp.shape
      have HRs := HR l b1 hres
      have b5 := new1 hk2
      have b2 : w2.heap[w.heap.size]? = some (.cells #[.int .i64 0, .slice none 0 0] 26 (0, 0)) := (hk2.block w.heap.size (by simp; omega) (fun f => f)).trans ((Go.heap_alloc_old w1 _ hgl).trans BB.out)
      have c0 := cell_at b2 0 _ rfl
      have c1 := cell_at b2 1 _ rfl
      have f0 := frozen_at b2 0
      have f1 := frozen_at b2 1
      have d0 := cell_at b5 0 _ rfl
      have d1 := cell_at b5 1 _ rfl
      have g0 := frozen_at b5 0
      have g1 := frozen_at b5 1
      have hg2 : w1.heap.size < w2.heap.size := cell_lt (a := ⟨w1.heap.size, 0, none⟩) d0
      have B2 := Lib.hid b2
      have B5 := Lib.hid b5
      simp only [World.alloc, Array.size_push] at hp
      have HP := Lib.hid hp
      have HK2 := Lib.hid (HK.out.then ((Kept.alloc Nob w1 _).then hk2))
      have hll2 : l.length < 1000000000 := by omega
      clear b2 b5 hp hk2 hres
      cases b1 with
      | false =>
        have HN := Lib.hid (obRes_none HRs.out)
        have HF := Lib.hid (objn_fin (.int .i64 0) (.slice none 0 0) B2.out HK2.out)
        clear HRs HOb
        go_wp2_with fail
        exact bodyPost_cell2 (p := 2) (u := 3) (ty := 26) (g := w.heap.size) (by kernel_rfl) rfl HF.out.1 Tryz.underlying26 rfl (by kernel_rfl) rfl (.inr ⟨HN.out, rfl, HF.out.2⟩)
      | true =>
        have HP3 := Lib.hid (HP.out.kept (kept1 w2 w1.heap.size 1 (.slice ua l.length uc)) (fun j (h1 : w1.heap.size + 1 ≤ j) (h2 : j = w1.heap.size) => by omega))
        have HOc := HOb _ 1 _ l _ HP3.out hll2
        obtain ⟨ov, hov⟩ : ∃ x, (⟨(obText ⟨1, l⟩).toArray⟩ : ByteArray) = x := ⟨_, rfl⟩
        rw [hov] at HOc
        have hoe : ov = sv ↔ obText ⟨1, l⟩ = s := by
          rw [← hov, ← HSv.out]
          exact ⟨fun h => mk_inj h, fun h => by rw [h]⟩
        have HOe := Lib.hid hoe
        clear hov hoe
        go_wp2_with fail
        refine HOc.out.mono ?_
        rintro e w3 ⟨rfl, hk3⟩
        have HF3 := Lib.hid (rp_fin (by omega) B2.out B5.out HP.out HK2.out hk3)
        have c0 := cell_at HF3.out.1 0 _ rfl
        have c1 := cell_at HF3.out.1 1 _ rfl
        have f0 := frozen_at HF3.out.1 0
        have f1 := frozen_at HF3.out.1 1
        have d0 := cell_at HF3.out.2.1 0 _ rfl
        have d1 := cell_at HF3.out.2.1 1 _ rfl
        have hls : sv.toList = s := by rw [← HSv.out, ByteArray.toList_eq]
        have hos : ov ≠ sv → (ov.toList == s) = false := fun hn => by
          rw [← hls]
          simp only [beq_eq_false_iff_ne, ne_eq]
          intro e
          apply hn
          rw [ByteArray.toList_eq, ByteArray.toList_eq] at e
          exact ByteArray.ext (Array.ext' e)
        clear hk3 HOb
        by_cases ho : ov = sv
        · subst ho
          by_cases hse : s = []
          · have HN : Hid (∀ ob, ObOk ob → obText ob ≠ s) := Lib.hid (fun ob ho e => obText_ne ho (e.trans hse))
            have HF := Lib.hid (objn_fin (.int .i64 0) (.slice none 0 0) HF3.out.1 HF3.out.2.2.2)
            have hse2 : ov.toList = [] := by rw [hls, hse]
            clear hls hos
            go_wp2_with fail
            exact bodyPost_cell2 (p := 2) (u := 3) (ty := 26) (g := w.heap.size) (by kernel_rfl) rfl HF.out.1 Tryz.underlying26 rfl (by kernel_rfl) rfl (.inr ⟨HN.out, rfl, HF.out.2⟩)
          · have HY := Lib.hid (HOe.out.1 rfl)
            have HYo : Hid (ObOk ⟨1, l⟩) := Lib.hid (obText_iff.1 (by rw [HY.out]; exact hse))
            have HF := Lib.hid (objn_fin (.int .i64 1) (.slice ua l.length uc) HF3.out.1 HF3.out.2.2.2)
            have HPf := Lib.hid (pts_fin (w := w) (n := w1.heap.size + 1) (.int .i64 1) (.slice ua l.length uc) (by omega) HF3.out.2.2.1)
            have hse2 : ov.toList.isEmpty = false := by rw [hls]; simpa using hse
            clear hls hos
            go_wp2_with fail
            exact bodyPost_cell2 (p := 2) (u := 3) (ty := 26) (g := w.heap.size) (by kernel_rfl) rfl HF.out.1 Tryz.underlying26 rfl (by kernel_rfl) rfl (.inl ⟨⟨1, l⟩, _, HYo.out, HY.out, rfl, HPf.out, HF.out.2⟩)
        · have HN := Lib.hid (obRes_other HRs.out (fun e => ho (HOe.out.2 e)))
          have HF := Lib.hid (objn_fin (.int .i64 0) (.slice none 0 0) HF3.out.1 HF3.out.2.2.2)
          have hos2 : (ov.toList == sv.toList) = false := by rw [hls]; exact hos ho
          clear hls hos
          go_wp2_with fail
          exact bodyPost_cell2 (p := 2) (u := 3) (ty := 26) (g := w.heap.size) (by kernel_rfl) rfl HF.out.1 Tryz.underlying26 rfl (by kernel_rfl) rfl (.inr ⟨HN.out, rfl, HF.out.2⟩)
    · have HTl := Lib.hid HOw.out.reads.tailc
      rw [if_neg hcc] at HTl
      simp only [List.length_cons, Nat.add_sub_cancel] at HTl
      go_wp2_with fail
      refine (HPts _ _ _ (HTl.out.alloc _)).out.mono ?_
      rintro e w2 ⟨u, b1, l, rfl, hp, hll, hres, hk2⟩
      obtain ⟨ua, uc, rfl⟩ := hp.shape
      have HRs := HR l b1 hres
      have b5 := new1 hk2
      have b2 : w2.heap[w.heap.size]? = some (.cells #[.int .i64 0, .slice none 0 0] 26 (0, 0)) := (hk2.block w.heap.size (by simp; omega) (fun f => f)).trans ((Go.heap_alloc_old w1 _ hgl).trans BB.out)
      have c0 := cell_at b2 0 _ rfl
      have c1 := cell_at b2 1 _ rfl
      have f0 := frozen_at b2 0
      have f1 := frozen_at b2 1
      have d0 := cell_at b5 0 _ rfl
      have d1 := cell_at b5 1 _ rfl
      have g0 := frozen_at b5 0
      have g1 := frozen_at b5 1
      have hg2 : w1.heap.size < w2.heap.size := cell_lt (a := ⟨w1.heap.size, 0, none⟩) d0
      have B2 := Lib.hid b2
      have B5 := Lib.hid b5
      simp only [World.alloc, Array.size_push] at hp
      have HP := Lib.hid hp
      have HK2 := Lib.hid (HK.out.then ((Kept.alloc Nob w1 _).then hk2))
      have hll2 : l.length < 1000000000 := by omega
      clear b2 b5 hp hk2 hres
      cases b1 with
      | false =>
        have HN := Lib.hid (obRes_none HRs.out)
        have HF := Lib.hid (objn_fin (.int .i64 0) (.slice none 0 0) B2.out HK2.out)
        clear HRs HOb
        go_wp2_with fail
        exact bodyPost_cell2 (p := 2) (u := 3) (ty := 26) (g := w.heap.size) (by kernel_rfl) rfl HF.out.1 Tryz.underlying26 rfl (by kernel_rfl) rfl (.inr ⟨HN.out, rfl, HF.out.2⟩)
      | true =>
        have HP3 := Lib.hid (HP.out.kept (kept1 w2 w1.heap.size 1 (.slice ua l.length uc)) (fun j (h1 : w1.heap.size + 1 ≤ j) (h2 : j = w1.heap.size) => by omega))
        have HOc := HOb _ 1 _ l _ HP3.out hll2
        obtain ⟨ov, hov⟩ : ∃ x, (⟨(obText ⟨1, l⟩).toArray⟩ : ByteArray) = x := ⟨_, rfl⟩
        rw [hov] at HOc
        have hoe : ov = sv ↔ obText ⟨1, l⟩ = s := by
          rw [← hov, ← HSv.out]
          exact ⟨fun h => mk_inj h, fun h => by rw [h]⟩
        have HOe := Lib.hid hoe
        clear hov hoe
        go_wp2_with fail
        refine HOc.out.mono ?_
        rintro e w3 ⟨rfl, hk3⟩
        have HF3 := Lib.hid (rp_fin (by omega) B2.out B5.out HP.out HK2.out hk3)
        have c0 := cell_at HF3.out.1 0 _ rfl
        have c1 := cell_at HF3.out.1 1 _ rfl
        have f0 := frozen_at HF3.out.1 0
        have f1 := frozen_at HF3.out.1 1
        have d0 := cell_at HF3.out.2.1 0 _ rfl
        have d1 := cell_at HF3.out.2.1 1 _ rfl
        have hls : sv.toList = s := by rw [← HSv.out, ByteArray.toList_eq]
        have hos : ov ≠ sv → (ov.toList == s) = false := fun hn => by
          rw [← hls]
          simp only [beq_eq_false_iff_ne, ne_eq]
          intro e
          apply hn
          rw [ByteArray.toList_eq, ByteArray.toList_eq] at e
          exact ByteArray.ext (Array.ext' e)
        clear hk3 HOb
        by_cases ho : ov = sv
        · subst ho
          by_cases hse : s = []
          · have HN : Hid (∀ ob, ObOk ob → obText ob ≠ s) := Lib.hid (fun ob ho e => obText_ne ho (e.trans hse))
            have HF := Lib.hid (objn_fin (.int .i64 0) (.slice none 0 0) HF3.out.1 HF3.out.2.2.2)
            have hse2 : ov.toList = [] := by rw [hls, hse]
            clear hls hos
            go_wp2_with fail
            exact bodyPost_cell2 (p := 2) (u := 3) (ty := 26) (g := w.heap.size) (by kernel_rfl) rfl HF.out.1 Tryz.underlying26 rfl (by kernel_rfl) rfl (.inr ⟨HN.out, rfl, HF.out.2⟩)
          · have HY := Lib.hid (HOe.out.1 rfl)
            have HYo : Hid (ObOk ⟨1, l⟩) := Lib.hid (obText_iff.1 (by rw [HY.out]; exact hse))
            have HF := Lib.hid (objn_fin (.int .i64 1) (.slice ua l.length uc) HF3.out.1 HF3.out.2.2.2)
            have HPf := Lib.hid (pts_fin (w := w) (n := w1.heap.size + 1) (.int .i64 1) (.slice ua l.length uc) (by omega) HF3.out.2.2.1)
            have hse2 : ov.toList.isEmpty = false := by rw [hls]; simpa using hse
            clear hls hos
            go_wp2_with fail
            exact bodyPost_cell2 (p := 2) (u := 3) (ty := 26) (g := w.heap.size) (by kernel_rfl) rfl HF.out.1 Tryz.underlying26 rfl (by kernel_rfl) rfl (.inl ⟨⟨1, l⟩, _, HYo.out, HY.out, rfl, HPf.out, HF.out.2⟩)
        · have HN := Lib.hid (obRes_other HRs.out (fun e => ho (HOe.out.2 e)))
          have HF := Lib.hid (objn_fin (.int .i64 0) (.slice none 0 0) HF3.out.1 HF3.out.2.2.2)
          have hos2 : (ov.toList == sv.toList) = false := by rw [hls]; exact hos ho
          clear hls hos
          go_wp2_with fail
          exact bodyPost_cell2 (p := 2) (u := 3) (ty := 26) (g := w.heap.size) (by kernel_rfl) rfl HF.out.1 Tryz.underlying26 rfl (by kernel_rfl) rfl (.inr ⟨HN.out, rfl, HF.out.2⟩)
  by_cases hh3 : h = wBox
  · subst hh3
    have hv1 : hv = ⟨#[98, 111, 120]⟩ := HHv.out.symm
    subst hv1
    have HR := fun (l : List Pt) (b : Bool) (hp : PtsRes t l b) => Lib.hid (obRes_plain (k := 3) (.inr (.inl rfl)) HS.out hp)
    by_cases hcc : cc = 1
    · subst hcc
      have ht0 : t = [] := by
        rcases HOw.out.shape with ⟨e, _⟩ | ⟨_, _, _, e, _, _, hc, _⟩
        · cases e
        · simp at e hc
          exact List.length_eq_zero_iff.1 (by omega)
      subst ht0
      have HTl := Lib.hid HOw.out.reads.tailc
      rw [if_pos rfl] at HTl
      simp only [List.length_cons, List.length_nil, Nat.zero_add, Nat.sub_self] at HTl
      go_wp2_with fail
      refine (HPts _ _ _ (HTl.out.alloc _)).out.mono ?_
      rintro e w2 ⟨u, b1, l, rfl, hp, hll, hres, hk2⟩
      obtain ⟨ua, uc, rfl⟩ := hp.shape
      have HRs := HR l b1 hres
      have b5 := new1 hk2
      have b2 : w2.heap[w.heap.size]? = some (.cells #[.int .i64 0, .slice none 0 0] 26 (0, 0)) := (hk2.block w.heap.size (by simp; omega) (fun f => f)).trans ((Go.heap_alloc_old w1 _ hgl).trans BB.out)
      have c0 := cell_at b2 0 _ rfl
      have c1 := cell_at b2 1 _ rfl
      have f0 := frozen_at b2 0
      have f1 := frozen_at b2 1
      have d0 := cell_at b5 0 _ rfl
      have d1 := cell_at b5 1 _ rfl
      have g0 := frozen_at b5 0
      have g1 := frozen_at b5 1
      have hg2 : w1.heap.size < w2.heap.size := cell_lt (a := ⟨w1.heap.size, 0, none⟩) d0
      have B2 := Lib.hid b2
      have B5 := Lib.hid b5
      simp only [World.alloc, Array.size_push] at hp
      have HP := Lib.hid hp
      have HK2 := Lib.hid (HK.out.then ((Kept.alloc Nob w1 _).then hk2))
      have hll2 : l.length < 1000000000 := by omega
      clear b2 b5 hp hk2 hres
      cases b1 with
      | false =>
        have HN := Lib.hid (obRes_none HRs.out)
        have HF := Lib.hid (objn_fin (.int .i64 0) (.slice none 0 0) B2.out HK2.out)
        clear HRs HOb
        go_wp2_with fail
        exact bodyPost_cell2 (p := 2) (u := 3) (ty := 26) (g := w.heap.size) (by kernel_rfl) rfl HF.out.1 Tryz.underlying26 rfl (by kernel_rfl) rfl (.inr ⟨HN.out, rfl, HF.out.2⟩)
      | true =>
        have HP3 := Lib.hid (HP.out.kept (kept1 w2 w1.heap.size 1 (.slice ua l.length uc)) (fun j (h1 : w1.heap.size + 1 ≤ j) (h2 : j = w1.heap.size) => by omega))
        have HOc := HOb _ 3 _ l _ HP3.out hll2
        obtain ⟨ov, hov⟩ : ∃ x, (⟨(obText ⟨3, l⟩).toArray⟩ : ByteArray) = x := ⟨_, rfl⟩
        rw [hov] at HOc
        have hoe : ov = sv ↔ obText ⟨3, l⟩ = s := by
          rw [← hov, ← HSv.out]
          exact ⟨fun h => mk_inj h, fun h => by rw [h]⟩
        have HOe := Lib.hid hoe
        clear hov hoe
        go_wp2_with fail
        refine HOc.out.mono ?_
        rintro e w3 ⟨rfl, hk3⟩
        have HF3 := Lib.hid (rp_fin (by omega) B2.out B5.out HP.out HK2.out hk3)
        have c0 := cell_at HF3.out.1 0 _ rfl
        have c1 := cell_at HF3.out.1 1 _ rfl
        have f0 := frozen_at HF3.out.1 0
        have f1 := frozen_at HF3.out.1 1
        have d0 := cell_at HF3.out.2.1 0 _ rfl
        have d1 := cell_at HF3.out.2.1 1 _ rfl
        have hls : sv.toList = s := by rw [← HSv.out, ByteArray.toList_eq]
        have hos : ov ≠ sv → (ov.toList == s) = false := fun hn => by
          rw [← hls]
          simp only [beq_eq_false_iff_ne, ne_eq]
          intro e
          apply hn
          rw [ByteArray.toList_eq, ByteArray.toList_eq] at e
          exact ByteArray.ext (Array.ext' e)
        clear hk3 HOb
        by_cases ho : ov = sv
        · subst ho
          by_cases hse : s = []
          · have HN : Hid (∀ ob, ObOk ob → obText ob ≠ s) := Lib.hid (fun ob ho e => obText_ne ho (e.trans hse))
            have HF := Lib.hid (objn_fin (.int .i64 0) (.slice none 0 0) HF3.out.1 HF3.out.2.2.2)
            have hse2 : ov.toList = [] := by rw [hls, hse]
            clear hls hos
            go_wp2_with fail
            exact bodyPost_cell2 (p := 2) (u := 3) (ty := 26) (g := w.heap.size) (by kernel_rfl) rfl HF.out.1 Tryz.underlying26 rfl (by kernel_rfl) rfl (.inr ⟨HN.out, rfl, HF.out.2⟩)
          · have HY := Lib.hid (HOe.out.1 rfl)
            have HYo : Hid (ObOk ⟨3, l⟩) := Lib.hid (obText_iff.1 (by rw [HY.out]; exact hse))
            have HF := Lib.hid (objn_fin (.int .i64 3) (.slice ua l.length uc) HF3.out.1 HF3.out.2.2.2)
            have HPf := Lib.hid (pts_fin (w := w) (n := w1.heap.size + 1) (.int .i64 3) (.slice ua l.length uc) (by omega) HF3.out.2.2.1)
            have hse2 : ov.toList.isEmpty = false := by rw [hls]; simpa using hse
            clear hls hos
            go_wp2_with fail
            exact bodyPost_cell2 (p := 2) (u := 3) (ty := 26) (g := w.heap.size) (by kernel_rfl) rfl HF.out.1 Tryz.underlying26 rfl (by kernel_rfl) rfl (.inl ⟨⟨3, l⟩, _, HYo.out, HY.out, rfl, HPf.out, HF.out.2⟩)
        · have HN := Lib.hid (obRes_other HRs.out (fun e => ho (HOe.out.2 e)))
          have HF := Lib.hid (objn_fin (.int .i64 0) (.slice none 0 0) HF3.out.1 HF3.out.2.2.2)
          have hos2 : (ov.toList == sv.toList) = false := by rw [hls]; exact hos ho
          clear hls hos
          go_wp2_with fail
          exact bodyPost_cell2 (p := 2) (u := 3) (ty := 26) (g := w.heap.size) (by kernel_rfl) rfl HF.out.1 Tryz.underlying26 rfl (by kernel_rfl) rfl (.inr ⟨HN.out, rfl, HF.out.2⟩)
    · have HTl := Lib.hid HOw.out.reads.tailc
      rw [if_neg hcc] at HTl
      simp only [List.length_cons, Nat.add_sub_cancel] at HTl
      go_wp2_with fail
      refine (HPts _ _ _ (HTl.out.alloc _)).out.mono ?_
      rintro e w2 ⟨u, b1, l, rfl, hp, hll, hres, hk2⟩
      obtain ⟨ua, uc, rfl⟩ := hp.shape
      have HRs := HR l b1 hres
      have b5 := new1 hk2
      have b2 : w2.heap[w.heap.size]? = some (.cells #[.int .i64 0, .slice none 0 0] 26 (0, 0)) := (hk2.block w.heap.size (by simp; omega) (fun f => f)).trans ((Go.heap_alloc_old w1 _ hgl).trans BB.out)
      have c0 := cell_at b2 0 _ rfl
      have c1 := cell_at b2 1 _ rfl
      have f0 := frozen_at b2 0
      have f1 := frozen_at b2 1
      have d0 := cell_at b5 0 _ rfl
      have d1 := cell_at b5 1 _ rfl
      have g0 := frozen_at b5 0
      have g1 := frozen_at b5 1
      have hg2 : w1.heap.size < w2.heap.size := cell_lt (a := ⟨w1.heap.size, 0, none⟩) d0
      have B2 := Lib.hid b2
      have B5 := Lib.hid b5
      simp only [World.alloc, Array.size_push] at hp
      have HP := Lib.hid hp
      have HK2 := Lib.hid (HK.out.then ((Kept.alloc Nob w1 _).then hk2))
      have hll2 : l.length < 1000000000 := by omega
      clear b2 b5 hp hk2 hres
      cases b1 with
      | false =>
        have HN := Lib.hid (obRes_none HRs.out)
        have HF := Lib.hid (objn_fin (.int .i64 0) (.slice none 0 0) B2.out HK2.out)
        clear HRs HOb
        go_wp2_with fail
        exact bodyPost_cell2 (p := 2) (u := 3) (ty := 26) (g := w.heap.size) (by kernel_rfl) rfl HF.out.1 Tryz.underlying26 rfl (by kernel_rfl) rfl (.inr ⟨HN.out, rfl, HF.out.2⟩)
      | true =>
        have HP3 := Lib.hid (HP.out.kept (kept1 w2 w1.heap.size 1 (.slice ua l.length uc)) (fun j (h1 : w1.heap.size + 1 ≤ j) (h2 : j = w1.heap.size) => by omega))
        have HOc := HOb _ 3 _ l _ HP3.out hll2
        obtain ⟨ov, hov⟩ : ∃ x, (⟨(obText ⟨3, l⟩).toArray⟩ : ByteArray) = x := ⟨_, rfl⟩
        rw [hov] at HOc
        have hoe : ov = sv ↔ obText ⟨3, l⟩ = s := by
          rw [← hov, ← HSv.out]
          exact ⟨fun h => mk_inj h, fun h => by rw [h]⟩
        have HOe := Lib.hid hoe
        clear hov hoe
        go_wp2_with fail
        refine HOc.out.mono ?_
        rintro e w3 ⟨rfl, hk3⟩
        have HF3 := Lib.hid (rp_fin (by omega) B2.out B5.out HP.out HK2.out hk3)
        have c0 := cell_at HF3.out.1 0 _ rfl
        have c1 := cell_at HF3.out.1 1 _ rfl
        have f0 := frozen_at HF3.out.1 0
        have f1 := frozen_at HF3.out.1 1
        have d0 := cell_at HF3.out.2.1 0 _ rfl
        have d1 := cell_at HF3.out.2.1 1 _ rfl
        have hls : sv.toList = s := by rw [← HSv.out, ByteArray.toList_eq]
        have hos : ov ≠ sv → (ov.toList == s) = false := fun hn => by
          rw [← hls]
          simp only [beq_eq_false_iff_ne, ne_eq]
          intro e
          apply hn
          rw [ByteArray.toList_eq, ByteArray.toList_eq] at e
          exact ByteArray.ext (Array.ext' e)
        clear hk3 HOb
        by_cases ho : ov = sv
        · subst ho
          by_cases hse : s = []
          · have HN : Hid (∀ ob, ObOk ob → obText ob ≠ s) := Lib.hid (fun ob ho e => obText_ne ho (e.trans hse))
            have HF := Lib.hid (objn_fin (.int .i64 0) (.slice none 0 0) HF3.out.1 HF3.out.2.2.2)
            have hse2 : ov.toList = [] := by rw [hls, hse]
            clear hls hos
            go_wp2_with fail
            exact bodyPost_cell2 (p := 2) (u := 3) (ty := 26) (g := w.heap.size) (by kernel_rfl) rfl HF.out.1 Tryz.underlying26 rfl (by kernel_rfl) rfl (.inr ⟨HN.out, rfl, HF.out.2⟩)
          · have HY := Lib.hid (HOe.out.1 rfl)
            have HYo : Hid (ObOk ⟨3, l⟩) := Lib.hid (obText_iff.1 (by rw [HY.out]; exact hse))
            have HF := Lib.hid (objn_fin (.int .i64 3) (.slice ua l.length uc) HF3.out.1 HF3.out.2.2.2)
            have HPf := Lib.hid (pts_fin (w := w) (n := w1.heap.size + 1) (.int .i64 3) (.slice ua l.length uc) (by omega) HF3.out.2.2.1)
            have hse2 : ov.toList.isEmpty = false := by rw [hls]; simpa using hse
            clear hls hos
            go_wp2_with fail
            exact bodyPost_cell2 (p := 2) (u := 3) (ty := 26) (g := w.heap.size) (by kernel_rfl) rfl HF.out.1 Tryz.underlying26 rfl (by kernel_rfl) rfl (.inl ⟨⟨3, l⟩, _, HYo.out, HY.out, rfl, HPf.out, HF.out.2⟩)
        · have HN := Lib.hid (obRes_other HRs.out (fun e => ho (HOe.out.2 e)))
          have HF := Lib.hid (objn_fin (.int .i64 0) (.slice none 0 0) HF3.out.1 HF3.out.2.2.2)
          have hos2 : (ov.toList == sv.toList) = false := by rw [hls]; exact hos ho
          clear hls hos
          go_wp2_with fail
          exact bodyPost_cell2 (p := 2) (u := 3) (ty := 26) (g := w.heap.size) (by kernel_rfl) rfl HF.out.1 Tryz.underlying26 rfl (by kernel_rfl) rfl (.inr ⟨HN.out, rfl, HF.out.2⟩)
  by_cases hh4 : h = wPoly
  · subst hh4
    have hv1 : hv = ⟨#[112, 111, 108, 121]⟩ := HHv.out.symm
    subst hv1
    have HR := fun (l : List Pt) (b : Bool) (hp : PtsRes t l b) => Lib.hid (obRes_plain (k := 4) (.inr (.inr rfl)) HS.out hp)
    by_cases hcc : cc = 1
    · subst hcc
      have ht0 : t = [] := by
        rcases HOw.out.shape with ⟨e, _⟩ | ⟨_, _, _, e, _, _, hc, _⟩
        · cases e
        · simp at e hc
          exact List.length_eq_zero_iff.1 (by omega)
      subst ht0
      have HTl := Lib.hid HOw.out.reads.tailc
      rw [if_pos rfl] at HTl
      simp only [List.length_cons, List.length_nil, Nat.zero_add, Nat.sub_self] at HTl
      go_wp2_with fail
      refine (HPts _ _ _ (HTl.out.alloc _)).out.mono ?_
      rintro e w2 ⟨u, b1, l, rfl, hp, hll, hres, hk2⟩
      obtain ⟨ua, uc, rfl⟩ := hp.shape
      have HRs := HR l b1 hres
      have b5 := new1 hk2
      have b2 : w2.heap[w.heap.size]? = some (.cells #[.int .i64 0, .slice none 0 0] 26 (0, 0)) := (hk2.block w.heap.size (by simp; omega) (fun f => f)).trans ((Go.heap_alloc_old w1 _ hgl).trans BB.out)
      have c0 := cell_at b2 0 _ rfl
      have c1 := cell_at b2 1 _ rfl
      have f0 := frozen_at b2 0
      have f1 := frozen_at b2 1
      have d0 := cell_at b5 0 _ rfl
      have d1 := cell_at b5 1 _ rfl
      have g0 := frozen_at b5 0
      have g1 := frozen_at b5 1
      have hg2 : w1.heap.size < w2.heap.size := cell_lt (a := ⟨w1.heap.size, 0, none⟩) d0
      have B2 := Lib.hid b2
      have B5 := Lib.hid b5
      simp only [World.alloc, Array.size_push] at hp
      have HP := Lib.hid hp
      have HK2 := Lib.hid (HK.out.then ((Kept.alloc Nob w1 _).then hk2))
      have hll2 : l.length < 1000000000 := by omega
      clear b2 b5 hp hk2 hres
      cases b1 with
      | false =>
        have HN := Lib.hid (obRes_none HRs.out)
        have HF := Lib.hid (objn_fin (.int .i64 0) (.slice none 0 0) B2.out HK2.out)
        clear HRs HOb
        go_wp2_with fail
        exact bodyPost_cell2 (p := 2) (u := 3) (ty := 26) (g := w.heap.size) (by kernel_rfl) rfl HF.out.1 Tryz.underlying26 rfl (by kernel_rfl) rfl (.inr ⟨HN.out, rfl, HF.out.2⟩)
      | true =>
        have HP3 := Lib.hid (HP.out.kept (kept1 w2 w1.heap.size 1 (.slice ua l.length uc)) (fun j (h1 : w1.heap.size + 1 ≤ j) (h2 : j = w1.heap.size) => by omega))
        have HOc := HOb _ 4 _ l _ HP3.out hll2
        obtain ⟨ov, hov⟩ : ∃ x, (⟨(obText ⟨4, l⟩).toArray⟩ : ByteArray) = x := ⟨_, rfl⟩
        rw [hov] at HOc
        have hoe : ov = sv ↔ obText ⟨4, l⟩ = s := by
          rw [← hov, ← HSv.out]
          exact ⟨fun h => mk_inj h, fun h => by rw [h]⟩
        have HOe := Lib.hid hoe
        clear hov hoe
        go_wp2_with fail
        refine HOc.out.mono ?_
        rintro e w3 ⟨rfl, hk3⟩
        have HF3 := Lib.hid (rp_fin (by omega) B2.out B5.out HP.out HK2.out hk3)
        have c0 := cell_at HF3.out.1 0 _ rfl
        have c1 := cell_at HF3.out.1 1 _ rfl
        have f0 := frozen_at HF3.out.1 0
        have f1 := frozen_at HF3.out.1 1
        have d0 := cell_at HF3.out.2.1 0 _ rfl
        have d1 := cell_at HF3.out.2.1 1 _ rfl
        have hls : sv.toList = s := by rw [← HSv.out, ByteArray.toList_eq]
        have hos : ov ≠ sv → (ov.toList == s) = false := fun hn => by
          rw [← hls]
          simp only [beq_eq_false_iff_ne, ne_eq]
          intro e
          apply hn
          rw [ByteArray.toList_eq, ByteArray.toList_eq] at e
          exact ByteArray.ext (Array.ext' e)
        clear hk3 HOb
        by_cases ho : ov = sv
        · subst ho
          by_cases hse : s = []
          · have HN : Hid (∀ ob, ObOk ob → obText ob ≠ s) := Lib.hid (fun ob ho e => obText_ne ho (e.trans hse))
            have HF := Lib.hid (objn_fin (.int .i64 0) (.slice none 0 0) HF3.out.1 HF3.out.2.2.2)
            have hse2 : ov.toList = [] := by rw [hls, hse]
            clear hls hos
            go_wp2_with fail
            exact bodyPost_cell2 (p := 2) (u := 3) (ty := 26) (g := w.heap.size) (by kernel_rfl) rfl HF.out.1 Tryz.underlying26 rfl (by kernel_rfl) rfl (.inr ⟨HN.out, rfl, HF.out.2⟩)
          · have HY := Lib.hid (HOe.out.1 rfl)
            have HYo : Hid (ObOk ⟨4, l⟩) := Lib.hid (obText_iff.1 (by rw [HY.out]; exact hse))
            have HF := Lib.hid (objn_fin (.int .i64 4) (.slice ua l.length uc) HF3.out.1 HF3.out.2.2.2)
            have HPf := Lib.hid (pts_fin (w := w) (n := w1.heap.size + 1) (.int .i64 4) (.slice ua l.length uc) (by omega) HF3.out.2.2.1)
            have hse2 : ov.toList.isEmpty = false := by rw [hls]; simpa using hse
            clear hls hos
            go_wp2_with fail
            exact bodyPost_cell2 (p := 2) (u := 3) (ty := 26) (g := w.heap.size) (by kernel_rfl) rfl HF.out.1 Tryz.underlying26 rfl (by kernel_rfl) rfl (.inl ⟨⟨4, l⟩, _, HYo.out, HY.out, rfl, HPf.out, HF.out.2⟩)
        · have HN := Lib.hid (obRes_other HRs.out (fun e => ho (HOe.out.2 e)))
          have HF := Lib.hid (objn_fin (.int .i64 0) (.slice none 0 0) HF3.out.1 HF3.out.2.2.2)
          have hos2 : (ov.toList == sv.toList) = false := by rw [hls]; exact hos ho
          clear hls hos
          go_wp2_with fail
          exact bodyPost_cell2 (p := 2) (u := 3) (ty := 26) (g := w.heap.size) (by kernel_rfl) rfl HF.out.1 Tryz.underlying26 rfl (by kernel_rfl) rfl (.inr ⟨HN.out, rfl, HF.out.2⟩)
    · have HTl := Lib.hid HOw.out.reads.tailc
      rw [if_neg hcc] at HTl
      simp only [List.length_cons, Nat.add_sub_cancel] at HTl
      go_wp2_with fail
      refine (HPts _ _ _ (HTl.out.alloc _)).out.mono ?_
      rintro e w2 ⟨u, b1, l, rfl, hp, hll, hres, hk2⟩
      obtain ⟨ua, uc, rfl⟩ := hp.shape
      have HRs := HR l b1 hres
      have b5 := new1 hk2
      have b2 : w2.heap[w.heap.size]? = some (.cells #[.int .i64 0, .slice none 0 0] 26 (0, 0)) := (hk2.block w.heap.size (by simp; omega) (fun f => f)).trans ((Go.heap_alloc_old w1 _ hgl).trans BB.out)
      have c0 := cell_at b2 0 _ rfl
      have c1 := cell_at b2 1 _ rfl
      have f0 := frozen_at b2 0
      have f1 := frozen_at b2 1
      have d0 := cell_at b5 0 _ rfl
      have d1 := cell_at b5 1 _ rfl
      have g0 := frozen_at b5 0
      have g1 := frozen_at b5 1
      have hg2 : w1.heap.size < w2.heap.size := cell_lt (a := ⟨w1.heap.size, 0, none⟩) d0
      have B2 := Lib.hid b2
      have B5 := Lib.hid b5
      simp only [World.alloc, Array.size_push] at hp
      have HP := Lib.hid hp
      have HK2 := Lib.hid (HK.out.then ((Kept.alloc Nob w1 _).then hk2))
      have hll2 : l.length < 1000000000 := by omega
      clear b2 b5 hp hk2 hres
      cases b1 with
      | false =>
        have HN := Lib.hid (obRes_none HRs.out)
        have HF := Lib.hid (objn_fin (.int .i64 0) (.slice none 0 0) B2.out HK2.out)
        clear HRs HOb
        go_wp2_with fail
        exact bodyPost_cell2 (p := 2) (u := 3) (ty := 26) (g := w.heap.size) (by kernel_rfl) rfl HF.out.1 Tryz.underlying26 rfl (by kernel_rfl) rfl (.inr ⟨HN.out, rfl, HF.out.2⟩)
      | true =>
        have HP3 := Lib.hid (HP.out.kept (kept1 w2 w1.heap.size 1 (.slice ua l.length uc)) (fun j (h1 : w1.heap.size + 1 ≤ j) (h2 : j = w1.heap.size) => by omega))
        have HOc := HOb _ 4 _ l _ HP3.out hll2
        obtain ⟨ov, hov⟩ : ∃ x, (⟨(obText ⟨4, l⟩).toArray⟩ : ByteArray) = x := ⟨_, rfl⟩
        rw [hov] at HOc
        have hoe : ov = sv ↔ obText ⟨4, l⟩ = s := by
          rw [← hov, ← HSv.out]
          exact ⟨fun h => mk_inj h, fun h => by rw [h]⟩
        have HOe := Lib.hid hoe
        clear hov hoe
        go_wp2_with fail
        refine HOc.out.mono ?_
        rintro e w3 ⟨rfl, hk3⟩
        have HF3 := Lib.hid (rp_fin (by omega) B2.out B5.out HP.out HK2.out hk3)
        have c0 := cell_at HF3.out.1 0 _ rfl
        have c1 := cell_at HF3.out.1 1 _ rfl
        have f0 := frozen_at HF3.out.1 0
        have f1 := frozen_at HF3.out.1 1
        have d0 := cell_at HF3.out.2.1 0 _ rfl
        have d1 := cell_at HF3.out.2.1 1 _ rfl
        have hls : sv.toList = s := by rw [← HSv.out, ByteArray.toList_eq]
        have hos : ov ≠ sv → (ov.toList == s) = false := fun hn => by
          rw [← hls]
          simp only [beq_eq_false_iff_ne, ne_eq]
          intro e
          apply hn
          rw [ByteArray.toList_eq, ByteArray.toList_eq] at e
          exact ByteArray.ext (Array.ext' e)
        clear hk3 HOb
        by_cases ho : ov = sv
        · subst ho
          by_cases hse : s = []
          · have HN : Hid (∀ ob, ObOk ob → obText ob ≠ s) := Lib.hid (fun ob ho e => obText_ne ho (e.trans hse))
            have HF := Lib.hid (objn_fin (.int .i64 0) (.slice none 0 0) HF3.out.1 HF3.out.2.2.2)
            have hse2 : ov.toList = [] := by rw [hls, hse]
            clear hls hos
            go_wp2_with fail
            exact bodyPost_cell2 (p := 2) (u := 3) (ty := 26) (g := w.heap.size) (by kernel_rfl) rfl HF.out.1 Tryz.underlying26 rfl (by kernel_rfl) rfl (.inr ⟨HN.out, rfl, HF.out.2⟩)
          · have HY := Lib.hid (HOe.out.1 rfl)
            have HYo : Hid (ObOk ⟨4, l⟩) := Lib.hid (obText_iff.1 (by rw [HY.out]; exact hse))
            have HF := Lib.hid (objn_fin (.int .i64 4) (.slice ua l.length uc) HF3.out.1 HF3.out.2.2.2)
            have HPf := Lib.hid (pts_fin (w := w) (n := w1.heap.size + 1) (.int .i64 4) (.slice ua l.length uc) (by omega) HF3.out.2.2.1)
            have hse2 : ov.toList.isEmpty = false := by rw [hls]; simpa using hse
            clear hls hos
            go_wp2_with fail
            exact bodyPost_cell2 (p := 2) (u := 3) (ty := 26) (g := w.heap.size) (by kernel_rfl) rfl HF.out.1 Tryz.underlying26 rfl (by kernel_rfl) rfl (.inl ⟨⟨4, l⟩, _, HYo.out, HY.out, rfl, HPf.out, HF.out.2⟩)
        · have HN := Lib.hid (obRes_other HRs.out (fun e => ho (HOe.out.2 e)))
          have HF := Lib.hid (objn_fin (.int .i64 0) (.slice none 0 0) HF3.out.1 HF3.out.2.2.2)
          have hos2 : (ov.toList == sv.toList) = false := by rw [hls]; exact hos ho
          clear hls hos
          go_wp2_with fail
          exact bodyPost_cell2 (p := 2) (u := 3) (ty := 26) (g := w.heap.size) (by kernel_rfl) rfl HF.out.1 Tryz.underlying26 rfl (by kernel_rfl) rfl (.inr ⟨HN.out, rfl, HF.out.2⟩)
  by_cases hh2 : h = wInterval
  · subst hh2
    have hv1 : hv = ⟨#[105, 110, 116, 101, 114, 118, 97, 108]⟩ := HHv.out.symm
    subst hv1
    by_cases ht2 : t.length = 2
    · obtain ⟨x, y, rfl⟩ : ∃ x y, t = [x, y] := by
        match t, ht2 with
        | [x, y], _ => exact ⟨x, y, rfl⟩
      have HNx := fun (wx : World) => Lib.hid (ref_num wx x (by have := HL.out.2 x (by simp); omega))
      have HNy := fun (wx : World) => Lib.hid (ref_num wx y (by have := HL.out.2 y (by simp); omega))
      have x1 := HOw.out.cell 1 _ rfl
      have x2 := HOw.out.cell 2 _ rfl
      obtain ⟨xv, hxv⟩ : ∃ u, (⟨x.toArray⟩ : ByteArray) = u := ⟨_, rfl⟩
      obtain ⟨yv, hyv⟩ : ∃ u, (⟨y.toArray⟩ : ByteArray) = u := ⟨_, rfl⟩
      unfold strV at x1 x2 HNx HNy
      rw [hxv] at x1 HNx
      rw [hyv] at x2 HNy
      have HR := fun (a b : Int) (ba bb : Bool) (ha : NumRes x a ba) (hb : NumRes y b bb) => Lib.hid (obRes_num HS.out ha hb)
      clear hxv hyv HPts ht2
      simp only [List.length_cons, List.length_nil, Nat.zero_add, Nat.reduceAdd] at *
      go_wp2_with fail
      refine (HNx _).out.mono ?_
      rintro e w2 ⟨a, ba, rfl, hna, hk2⟩
      have y2 : w2.cell? ⟨g, 2, none⟩ = some (.string yv) := (((Kept.alloc Nob w1 _).then hk2).cell (p := ⟨g, 2, none⟩) hg1 (fun f => f)).trans x2
      have hg2 : g < w2.heap.size := cell_lt (a := ⟨g, 2, none⟩) y2
      have HK2 := Lib.hid ((Kept.alloc Nob w1 _).then hk2)
      have b5 := new1 hk2
      have B5 := Lib.hid b5
      have HNa := Lib.hid hna
      clear hk2 hna b5
      go_wp2_with fail
      refine (HNy _).out.mono ?_
      rintro e w3 ⟨b, bb, rfl, hnb, hk3⟩
      have HRs := HR a b ba bb HNa.out hnb
      have b5 := (hk3.block w1.heap.size (Array.getElem?_eq_some_iff.1 B5.out).1 (fun f => f)).trans B5.out
      have HK3 := Lib.hid (HK2.out.then hk3)
      have b2 := (HK3.out.block w.heap.size hgl (fun f => f)).trans BB.out
      have c0 := cell_at b2 0 _ rfl
      have c1 := cell_at b2 1 _ rfl
      have f0 := frozen_at b2 0
      have f1 := frozen_at b2 1
      have d0 := cell_at b5 0 _ rfl
      have d1 := cell_at b5 1 _ rfl
      have g0 := frozen_at b5 0
      have g1 := frozen_at b5 1
      have hg3 : w1.heap.size < w3.heap.size := cell_lt (a := ⟨w1.heap.size, 0, none⟩) d0
      have B3 := Lib.hid b2
      have B6 := Lib.hid b5
      clear b2 b5 hk3 hnb y2 hg2 x1 x2 B5 HK2
      by_cases hbb : ba = true ∧ bb = true
      · obtain ⟨rfl, rfl⟩ := hbb
        have hll2 : [(a, b)].length < 1000000000 := by simp
        have B2 := Lib.hid ((Go.heap_alloc_old w3 (.cells #[.int .i64 a, .int .i64 b] 42) (cell_lt (a := ⟨w.heap.size, 0, none⟩) c0)).trans B3.out)
        have B5 := Lib.hid ((Go.heap_alloc_old w3 (.cells #[.int .i64 a, .int .i64 b] 42) hg3).trans B6.out)
        have HK2 := Lib.hid (HK.out.then (HK3.out.then (Kept.alloc Nob w3 (.cells #[.int .i64 a, .int .i64 b] 42))))
        have HP := Lib.hid (pt_new w3 a b (n := w1.heap.size + 1) (by omega))
        have HP3 := Lib.hid (HP.out.kept (kept1 (w3.alloc (.cells #[.int .i64 a, .int .i64 b] 42)) w1.heap.size 1 (.slice (some ⟨w3.heap.size, 0, none⟩) 1 1)) (fun j (h1 : w1.heap.size + 1 ≤ j) (h2 : j = w1.heap.size) => by omega))
        have HOc := HOb _ 2 _ [(a, b)] _ HP3.out hll2
        obtain ⟨ov, hov⟩ : ∃ x, (⟨(obText ⟨2, [(a, b)]⟩).toArray⟩ : ByteArray) = x := ⟨_, rfl⟩
        rw [hov, World.setCell_alloc_past _ _ _ _ hg3] at HOc
        have hoe : ov = sv ↔ obText ⟨2, [(a, b)]⟩ = s := by
          rw [← hov, ← HSv.out]
          exact ⟨fun h => mk_inj h, fun h => by rw [h]⟩
        have HOe := Lib.hid hoe
        clear hov hoe
        go_wp2_with fail
        refine HOc.out.mono ?_
        rintro e w9 ⟨rfl, hk3⟩
        have HF3 := Lib.hid (rp_fin (by omega) B2.out B5.out HP.out HK2.out (by rw [World.setCell_alloc_past _ _ _ _ hg3]; exact hk3))
        have c0 := cell_at HF3.out.1 0 _ rfl
        have c1 := cell_at HF3.out.1 1 _ rfl
        have f0 := frozen_at HF3.out.1 0
        have f1 := frozen_at HF3.out.1 1
        have d0 := cell_at HF3.out.2.1 0 _ rfl
        have d1 := cell_at HF3.out.2.1 1 _ rfl
        have hls : sv.toList = s := by rw [← HSv.out, ByteArray.toList_eq]
        have hos : ov ≠ sv → (ov.toList == s) = false := fun hn => by
          rw [← hls]
          simp only [beq_eq_false_iff_ne, ne_eq]
          intro e
          apply hn
          rw [ByteArray.toList_eq, ByteArray.toList_eq] at e
          exact ByteArray.ext (Array.ext' e)
        clear hk3 HOb
        by_cases ho : ov = sv
        · subst ho
          by_cases hse : s = []
          · have HN : Hid (∀ ob, ObOk ob → obText ob ≠ s) := Lib.hid (fun ob ho e => obText_ne ho (e.trans hse))
            have HF := Lib.hid (objn_fin (.int .i64 0) (.slice none 0 0) HF3.out.1 HF3.out.2.2.2)
            have hse2 : ov.toList = [] := by rw [hls, hse]
            clear hls hos
            go_wp2_with fail
            exact bodyPost_cell2 (p := 2) (u := 3) (ty := 26) (g := w.heap.size) (by kernel_rfl) rfl HF.out.1 Tryz.underlying26 rfl (by kernel_rfl) rfl (.inr ⟨HN.out, rfl, HF.out.2⟩)
          · have HY := Lib.hid (HOe.out.1 rfl)
            have HYo : Hid (ObOk ⟨2, [(a, b)]⟩) := Lib.hid (obText_iff.1 (by rw [HY.out]; exact hse))
            have HF := Lib.hid (objn_fin (.int .i64 2) (.slice (some ⟨w3.heap.size, 0, none⟩) 1 1) HF3.out.1 HF3.out.2.2.2)
            have HPf := Lib.hid (pts_fin (w := w) (n := w1.heap.size + 1) (.int .i64 2) (.slice (some ⟨w3.heap.size, 0, none⟩) 1 1) (by omega) HF3.out.2.2.1)
            have hse2 : ov.toList.isEmpty = false := by rw [hls]; simpa using hse
            clear hls hos
            go_wp2_with fail
            exact bodyPost_cell2 (p := 2) (u := 3) (ty := 26) (g := w.heap.size) (by kernel_rfl) rfl HF.out.1 Tryz.underlying26 rfl (by kernel_rfl) rfl (.inl ⟨⟨2, [(a, b)]⟩, _, HYo.out, HY.out, rfl, HPf.out, HF.out.2⟩)
        · have HN := Lib.hid (obRes_other HRs.out (fun e => ho (HOe.out.2 e)))
          have HF := Lib.hid (objn_fin (.int .i64 0) (.slice none 0 0) HF3.out.1 HF3.out.2.2.2)
          have hos2 : (ov.toList == sv.toList) = false := by rw [hls]; exact hos ho
          clear hls hos
          go_wp2_with fail
          exact bodyPost_cell2 (p := 2) (u := 3) (ty := 26) (g := w.heap.size) (by kernel_rfl) rfl HF.out.1 Tryz.underlying26 rfl (by kernel_rfl) rfl (.inr ⟨HN.out, rfl, HF.out.2⟩)
      · have HN := Lib.hid (obRes_none (by have := HRs.out; rwa [show (ba && bb) = false from by cases ba <;> cases bb <;> simp_all] at this))
        have HF := Lib.hid (objn_fin (.int .i64 0) (.slice none 0 0) B3.out (HK.out.then HK3.out))
        clear HRs HOb
        cases ba <;> cases bb
        all_goals first
          | exact absurd ⟨rfl, rfl⟩ hbb
          | (go_wp2_with fail
             exact bodyPost_cell2 (p := 2) (u := 3) (ty := 26) (g := w.heap.size) (by kernel_rfl) rfl HF.out.1 Tryz.underlying26 rfl (by kernel_rfl) rfl (.inr ⟨HN.out, rfl, HF.out.2⟩))
    · have HR := fun (l : List Pt) (b : Bool) (_ : PtsRes t l b) => Lib.hid (obRes_two_no HS.out ht2 2 l b)
      have e3 : ((t.length : Int) + 1 == 3) = false := by simp; omega
      by_cases hcc : cc = 1
      · subst hcc
        have ht0 : t = [] := by
          rcases HOw.out.shape with ⟨e, _⟩ | ⟨_, _, _, e, _, _, hc, _⟩
          · cases e
          · simp at e hc
            exact List.length_eq_zero_iff.1 (by omega)
        subst ht0
        have HTl := Lib.hid HOw.out.reads.tailc
        rw [if_pos rfl] at HTl
        simp only [List.length_cons, List.length_nil, Nat.zero_add, Nat.sub_self] at HTl
        go_wp2_with fail
        refine (HPts _ _ _ (HTl.out.alloc _)).out.mono ?_
        rintro e w2 ⟨u, b1, l, rfl, hp, hll, hres, hk2⟩
        obtain ⟨ua, uc, rfl⟩ := hp.shape
        have HRs := HR l b1 hres
        have b5 := new1 hk2
        have b2 : w2.heap[w.heap.size]? = some (.cells #[.int .i64 0, .slice none 0 0] 26 (0, 0)) := (hk2.block w.heap.size (by simp; omega) (fun f => f)).trans ((Go.heap_alloc_old w1 _ hgl).trans BB.out)
        have c0 := cell_at b2 0 _ rfl
        have c1 := cell_at b2 1 _ rfl
        have f0 := frozen_at b2 0
        have f1 := frozen_at b2 1
        have d0 := cell_at b5 0 _ rfl
        have d1 := cell_at b5 1 _ rfl
        have g0 := frozen_at b5 0
        have g1 := frozen_at b5 1
        have hg2 : w1.heap.size < w2.heap.size := cell_lt (a := ⟨w1.heap.size, 0, none⟩) d0
        have B2 := Lib.hid b2
        have B5 := Lib.hid b5
        simp only [World.alloc, Array.size_push] at hp
        have HP := Lib.hid hp
        have HK2 := Lib.hid (HK.out.then ((Kept.alloc Nob w1 _).then hk2))
        have hll2 : l.length < 1000000000 := by omega
        clear b2 b5 hp hk2 hres
        cases b1 with
        | false =>
          have HN := Lib.hid (obRes_none HRs.out)
          have HF := Lib.hid (objn_fin (.int .i64 0) (.slice none 0 0) B2.out HK2.out)
          clear HRs HOb
          go_wp2_with fail
          exact bodyPost_cell2 (p := 2) (u := 3) (ty := 26) (g := w.heap.size) (by kernel_rfl) rfl HF.out.1 Tryz.underlying26 rfl (by kernel_rfl) rfl (.inr ⟨HN.out, rfl, HF.out.2⟩)
        | true =>
          have HP3 := Lib.hid (HP.out.kept (kept1 w2 w1.heap.size 1 (.slice ua l.length uc)) (fun j (h1 : w1.heap.size + 1 ≤ j) (h2 : j = w1.heap.size) => by omega))
          have HOc := HOb _ 2 _ l _ HP3.out hll2
          obtain ⟨ov, hov⟩ : ∃ x, (⟨(obText ⟨2, l⟩).toArray⟩ : ByteArray) = x := ⟨_, rfl⟩
          rw [hov] at HOc
          have hoe : ov = sv ↔ obText ⟨2, l⟩ = s := by
            rw [← hov, ← HSv.out]
            exact ⟨fun h => mk_inj h, fun h => by rw [h]⟩
          have HOe := Lib.hid hoe
          clear hov hoe
          go_wp2_with fail
          refine HOc.out.mono ?_
          rintro e w3 ⟨rfl, hk3⟩
          have HF3 := Lib.hid (rp_fin (by omega) B2.out B5.out HP.out HK2.out hk3)
          have c0 := cell_at HF3.out.1 0 _ rfl
          have c1 := cell_at HF3.out.1 1 _ rfl
          have f0 := frozen_at HF3.out.1 0
          have f1 := frozen_at HF3.out.1 1
          have d0 := cell_at HF3.out.2.1 0 _ rfl
          have d1 := cell_at HF3.out.2.1 1 _ rfl
          have hls : sv.toList = s := by rw [← HSv.out, ByteArray.toList_eq]
          have hos : ov ≠ sv → (ov.toList == s) = false := fun hn => by
            rw [← hls]
            simp only [beq_eq_false_iff_ne, ne_eq]
            intro e
            apply hn
            rw [ByteArray.toList_eq, ByteArray.toList_eq] at e
            exact ByteArray.ext (Array.ext' e)
          clear hk3 HOb
          by_cases ho : ov = sv
          · subst ho
            by_cases hse : s = []
            · have HN : Hid (∀ ob, ObOk ob → obText ob ≠ s) := Lib.hid (fun ob ho e => obText_ne ho (e.trans hse))
              have HF := Lib.hid (objn_fin (.int .i64 0) (.slice none 0 0) HF3.out.1 HF3.out.2.2.2)
              have hse2 : ov.toList = [] := by rw [hls, hse]
              clear hls hos
              go_wp2_with fail
              exact bodyPost_cell2 (p := 2) (u := 3) (ty := 26) (g := w.heap.size) (by kernel_rfl) rfl HF.out.1 Tryz.underlying26 rfl (by kernel_rfl) rfl (.inr ⟨HN.out, rfl, HF.out.2⟩)
            · have HY := Lib.hid (HOe.out.1 rfl)
              have HYo : Hid (ObOk ⟨2, l⟩) := Lib.hid (obText_iff.1 (by rw [HY.out]; exact hse))
              have HF := Lib.hid (objn_fin (.int .i64 2) (.slice ua l.length uc) HF3.out.1 HF3.out.2.2.2)
              have HPf := Lib.hid (pts_fin (w := w) (n := w1.heap.size + 1) (.int .i64 2) (.slice ua l.length uc) (by omega) HF3.out.2.2.1)
              have hse2 : ov.toList.isEmpty = false := by rw [hls]; simpa using hse
              clear hls hos
              go_wp2_with fail
              exact bodyPost_cell2 (p := 2) (u := 3) (ty := 26) (g := w.heap.size) (by kernel_rfl) rfl HF.out.1 Tryz.underlying26 rfl (by kernel_rfl) rfl (.inl ⟨⟨2, l⟩, _, HYo.out, HY.out, rfl, HPf.out, HF.out.2⟩)
          · have HN := Lib.hid (obRes_other HRs.out (fun e => ho (HOe.out.2 e)))
            have HF := Lib.hid (objn_fin (.int .i64 0) (.slice none 0 0) HF3.out.1 HF3.out.2.2.2)
            have hos2 : (ov.toList == sv.toList) = false := by rw [hls]; exact hos ho
            clear hls hos
            go_wp2_with fail
            exact bodyPost_cell2 (p := 2) (u := 3) (ty := 26) (g := w.heap.size) (by kernel_rfl) rfl HF.out.1 Tryz.underlying26 rfl (by kernel_rfl) rfl (.inr ⟨HN.out, rfl, HF.out.2⟩)
      · have HTl := Lib.hid HOw.out.reads.tailc
        rw [if_neg hcc] at HTl
        simp only [List.length_cons, Nat.add_sub_cancel] at HTl
        go_wp2_with fail
        refine (HPts _ _ _ (HTl.out.alloc _)).out.mono ?_
        rintro e w2 ⟨u, b1, l, rfl, hp, hll, hres, hk2⟩
        obtain ⟨ua, uc, rfl⟩ := hp.shape
        have HRs := HR l b1 hres
        have b5 := new1 hk2
        have b2 : w2.heap[w.heap.size]? = some (.cells #[.int .i64 0, .slice none 0 0] 26 (0, 0)) := (hk2.block w.heap.size (by simp; omega) (fun f => f)).trans ((Go.heap_alloc_old w1 _ hgl).trans BB.out)
        have c0 := cell_at b2 0 _ rfl
        have c1 := cell_at b2 1 _ rfl
        have f0 := frozen_at b2 0
        have f1 := frozen_at b2 1
        have d0 := cell_at b5 0 _ rfl
        have d1 := cell_at b5 1 _ rfl
        have g0 := frozen_at b5 0
        have g1 := frozen_at b5 1
        have hg2 : w1.heap.size < w2.heap.size := cell_lt (a := ⟨w1.heap.size, 0, none⟩) d0
        have B2 := Lib.hid b2
        have B5 := Lib.hid b5
        simp only [World.alloc, Array.size_push] at hp
        have HP := Lib.hid hp
        have HK2 := Lib.hid (HK.out.then ((Kept.alloc Nob w1 _).then hk2))
        have hll2 : l.length < 1000000000 := by omega
        clear b2 b5 hp hk2 hres
        cases b1 with
        | false =>
          have HN := Lib.hid (obRes_none HRs.out)
          have HF := Lib.hid (objn_fin (.int .i64 0) (.slice none 0 0) B2.out HK2.out)
          clear HRs HOb
          go_wp2_with fail
          exact bodyPost_cell2 (p := 2) (u := 3) (ty := 26) (g := w.heap.size) (by kernel_rfl) rfl HF.out.1 Tryz.underlying26 rfl (by kernel_rfl) rfl (.inr ⟨HN.out, rfl, HF.out.2⟩)
        | true =>
          have HP3 := Lib.hid (HP.out.kept (kept1 w2 w1.heap.size 1 (.slice ua l.length uc)) (fun j (h1 : w1.heap.size + 1 ≤ j) (h2 : j = w1.heap.size) => by omega))
          have HOc := HOb _ 2 _ l _ HP3.out hll2
          obtain ⟨ov, hov⟩ : ∃ x, (⟨(obText ⟨2, l⟩).toArray⟩ : ByteArray) = x := ⟨_, rfl⟩
          rw [hov] at HOc
          have hoe : ov = sv ↔ obText ⟨2, l⟩ = s := by
            rw [← hov, ← HSv.out]
            exact ⟨fun h => mk_inj h, fun h => by rw [h]⟩
          have HOe := Lib.hid hoe
          clear hov hoe
          go_wp2_with fail
          refine HOc.out.mono ?_
          rintro e w3 ⟨rfl, hk3⟩
          have HF3 := Lib.hid (rp_fin (by omega) B2.out B5.out HP.out HK2.out hk3)
          have c0 := cell_at HF3.out.1 0 _ rfl
          have c1 := cell_at HF3.out.1 1 _ rfl
          have f0 := frozen_at HF3.out.1 0
          have f1 := frozen_at HF3.out.1 1
          have d0 := cell_at HF3.out.2.1 0 _ rfl
          have d1 := cell_at HF3.out.2.1 1 _ rfl
          have hls : sv.toList = s := by rw [← HSv.out, ByteArray.toList_eq]
          have hos : ov ≠ sv → (ov.toList == s) = false := fun hn => by
            rw [← hls]
            simp only [beq_eq_false_iff_ne, ne_eq]
            intro e
            apply hn
            rw [ByteArray.toList_eq, ByteArray.toList_eq] at e
            exact ByteArray.ext (Array.ext' e)
          clear hk3 HOb
          by_cases ho : ov = sv
          · subst ho
            by_cases hse : s = []
            · have HN : Hid (∀ ob, ObOk ob → obText ob ≠ s) := Lib.hid (fun ob ho e => obText_ne ho (e.trans hse))
              have HF := Lib.hid (objn_fin (.int .i64 0) (.slice none 0 0) HF3.out.1 HF3.out.2.2.2)
              have hse2 : ov.toList = [] := by rw [hls, hse]
              clear hls hos
              go_wp2_with fail
              exact bodyPost_cell2 (p := 2) (u := 3) (ty := 26) (g := w.heap.size) (by kernel_rfl) rfl HF.out.1 Tryz.underlying26 rfl (by kernel_rfl) rfl (.inr ⟨HN.out, rfl, HF.out.2⟩)
            · have HY := Lib.hid (HOe.out.1 rfl)
              have HYo : Hid (ObOk ⟨2, l⟩) := Lib.hid (obText_iff.1 (by rw [HY.out]; exact hse))
              have HF := Lib.hid (objn_fin (.int .i64 2) (.slice ua l.length uc) HF3.out.1 HF3.out.2.2.2)
              have HPf := Lib.hid (pts_fin (w := w) (n := w1.heap.size + 1) (.int .i64 2) (.slice ua l.length uc) (by omega) HF3.out.2.2.1)
              have hse2 : ov.toList.isEmpty = false := by rw [hls]; simpa using hse
              clear hls hos
              go_wp2_with fail
              exact bodyPost_cell2 (p := 2) (u := 3) (ty := 26) (g := w.heap.size) (by kernel_rfl) rfl HF.out.1 Tryz.underlying26 rfl (by kernel_rfl) rfl (.inl ⟨⟨2, l⟩, _, HYo.out, HY.out, rfl, HPf.out, HF.out.2⟩)
          · have HN := Lib.hid (obRes_other HRs.out (fun e => ho (HOe.out.2 e)))
            have HF := Lib.hid (objn_fin (.int .i64 0) (.slice none 0 0) HF3.out.1 HF3.out.2.2.2)
            have hos2 : (ov.toList == sv.toList) = false := by rw [hls]; exact hos ho
            clear hls hos
            go_wp2_with fail
            exact bodyPost_cell2 (p := 2) (u := 3) (ty := 26) (g := w.heap.size) (by kernel_rfl) rfl HF.out.1 Tryz.underlying26 rfl (by kernel_rfl) rfl (.inr ⟨HN.out, rfl, HF.out.2⟩)
  have HR := fun (l : List Pt) (b : Bool) (_ : PtsRes t l b) => Lib.hid (obRes_no HS.out hh1 hh2 hh3 hh4 0 l b)
  have hvl : hv.toList = h := by rw [← HHv.out, ByteArray.toList_eq]
  have e1 : (h == [112, 111, 105, 110, 116]) = false := beq_eq_false_iff_ne.2 hh1
  have e2 : (h == [105, 110, 116, 101, 114, 118, 97, 108]) = false := beq_eq_false_iff_ne.2 hh2
  have e3 : (h == [98, 111, 120]) = false := beq_eq_false_iff_ne.2 hh3
  have e4 : (h == [112, 111, 108, 121]) = false := beq_eq_false_iff_ne.2 hh4
  clear hh1 hh2 hh3 hh4
  by_cases hcc : cc = 1
  · subst hcc
    have ht0 : t = [] := by
      rcases HOw.out.shape with ⟨e, _⟩ | ⟨_, _, _, e, _, _, hc, _⟩
      · cases e
      · simp at e hc
        exact List.length_eq_zero_iff.1 (by omega)
    subst ht0
    have HTl := Lib.hid HOw.out.reads.tailc
    rw [if_pos rfl] at HTl
    simp only [List.length_cons, List.length_nil, Nat.zero_add, Nat.sub_self] at HTl
    go_wp2_with fail
    refine (HPts _ _ _ (HTl.out.alloc _)).out.mono ?_
    rintro e w2 ⟨u, b1, l, rfl, hp, hll, hres, hk2⟩
    obtain ⟨ua, uc, rfl⟩ := hp.shape
    have HRs := HR l b1 hres
    have b5 := new1 hk2
    have b2 : w2.heap[w.heap.size]? = some (.cells #[.int .i64 0, .slice none 0 0] 26 (0, 0)) := (hk2.block w.heap.size (by simp; omega) (fun f => f)).trans ((Go.heap_alloc_old w1 _ hgl).trans BB.out)
    have c0 := cell_at b2 0 _ rfl
    have c1 := cell_at b2 1 _ rfl
    have f0 := frozen_at b2 0
    have f1 := frozen_at b2 1
    have d0 := cell_at b5 0 _ rfl
    have d1 := cell_at b5 1 _ rfl
    have g0 := frozen_at b5 0
    have g1 := frozen_at b5 1
    have hg2 : w1.heap.size < w2.heap.size := cell_lt (a := ⟨w1.heap.size, 0, none⟩) d0
    have B2 := Lib.hid b2
    have B5 := Lib.hid b5
    simp only [World.alloc, Array.size_push] at hp
    have HP := Lib.hid hp
    have HK2 := Lib.hid (HK.out.then ((Kept.alloc Nob w1 _).then hk2))
    have hll2 : l.length < 1000000000 := by omega
    clear b2 b5 hp hk2 hres
    cases b1 with
    | false =>
      have HN := Lib.hid (obRes_none HRs.out)
      have HF := Lib.hid (objn_fin (.int .i64 0) (.slice none 0 0) B2.out HK2.out)
      clear HRs HOb
      go_wp2_with fail
      exact bodyPost_cell2 (p := 2) (u := 3) (ty := 26) (g := w.heap.size) (by kernel_rfl) rfl HF.out.1 Tryz.underlying26 rfl (by kernel_rfl) rfl (.inr ⟨HN.out, rfl, HF.out.2⟩)
    | true =>
      have HP3 := Lib.hid (HP.out.kept (kept1 w2 w1.heap.size 1 (.slice ua l.length uc)) (fun j (h1 : w1.heap.size + 1 ≤ j) (h2 : j = w1.heap.size) => by omega))
      have HOc := HOb _ 0 _ l _ HP3.out hll2
      obtain ⟨ov, hov⟩ : ∃ x, (⟨(obText ⟨0, l⟩).toArray⟩ : ByteArray) = x := ⟨_, rfl⟩
      rw [hov] at HOc
      have hoe : ov = sv ↔ obText ⟨0, l⟩ = s := by
        rw [← hov, ← HSv.out]
        exact ⟨fun h => mk_inj h, fun h => by rw [h]⟩
      have HOe := Lib.hid hoe
      clear hov hoe
      go_wp2_with fail
      refine HOc.out.mono ?_
      rintro e w3 ⟨rfl, hk3⟩
      have HF3 := Lib.hid (rp_fin (by omega) B2.out B5.out HP.out HK2.out hk3)
      have c0 := cell_at HF3.out.1 0 _ rfl
      have c1 := cell_at HF3.out.1 1 _ rfl
      have f0 := frozen_at HF3.out.1 0
      have f1 := frozen_at HF3.out.1 1
      have d0 := cell_at HF3.out.2.1 0 _ rfl
      have d1 := cell_at HF3.out.2.1 1 _ rfl
      have hls : sv.toList = s := by rw [← HSv.out, ByteArray.toList_eq]
      have hos : ov ≠ sv → (ov.toList == s) = false := fun hn => by
        rw [← hls]
        simp only [beq_eq_false_iff_ne, ne_eq]
        intro e
        apply hn
        rw [ByteArray.toList_eq, ByteArray.toList_eq] at e
        exact ByteArray.ext (Array.ext' e)
      clear hk3 HOb
      by_cases ho : ov = sv
      · subst ho
        by_cases hse : s = []
        · have HN : Hid (∀ ob, ObOk ob → obText ob ≠ s) := Lib.hid (fun ob ho e => obText_ne ho (e.trans hse))
          have HF := Lib.hid (objn_fin (.int .i64 0) (.slice none 0 0) HF3.out.1 HF3.out.2.2.2)
          have hse2 : ov.toList = [] := by rw [hls, hse]
          clear hls hos
          go_wp2_with fail
          exact bodyPost_cell2 (p := 2) (u := 3) (ty := 26) (g := w.heap.size) (by kernel_rfl) rfl HF.out.1 Tryz.underlying26 rfl (by kernel_rfl) rfl (.inr ⟨HN.out, rfl, HF.out.2⟩)
        · have HY := Lib.hid (HOe.out.1 rfl)
          have HYo : Hid (ObOk ⟨0, l⟩) := Lib.hid (obText_iff.1 (by rw [HY.out]; exact hse))
          have HF := Lib.hid (objn_fin (.int .i64 0) (.slice ua l.length uc) HF3.out.1 HF3.out.2.2.2)
          have HPf := Lib.hid (pts_fin (w := w) (n := w1.heap.size + 1) (.int .i64 0) (.slice ua l.length uc) (by omega) HF3.out.2.2.1)
          have hse2 : ov.toList.isEmpty = false := by rw [hls]; simpa using hse
          clear hls hos
          go_wp2_with fail
          exact bodyPost_cell2 (p := 2) (u := 3) (ty := 26) (g := w.heap.size) (by kernel_rfl) rfl HF.out.1 Tryz.underlying26 rfl (by kernel_rfl) rfl (.inl ⟨⟨0, l⟩, _, HYo.out, HY.out, rfl, HPf.out, HF.out.2⟩)
      · have HN := Lib.hid (obRes_other HRs.out (fun e => ho (HOe.out.2 e)))
        have HF := Lib.hid (objn_fin (.int .i64 0) (.slice none 0 0) HF3.out.1 HF3.out.2.2.2)
        have hos2 : (ov.toList == sv.toList) = false := by rw [hls]; exact hos ho
        clear hls hos
        go_wp2_with fail
        exact bodyPost_cell2 (p := 2) (u := 3) (ty := 26) (g := w.heap.size) (by kernel_rfl) rfl HF.out.1 Tryz.underlying26 rfl (by kernel_rfl) rfl (.inr ⟨HN.out, rfl, HF.out.2⟩)
  · have HTl := Lib.hid HOw.out.reads.tailc
    rw [if_neg hcc] at HTl
    simp only [List.length_cons, Nat.add_sub_cancel] at HTl
    go_wp2_with fail
    refine (HPts _ _ _ (HTl.out.alloc _)).out.mono ?_
    rintro e w2 ⟨u, b1, l, rfl, hp, hll, hres, hk2⟩
    obtain ⟨ua, uc, rfl⟩ := hp.shape
    have HRs := HR l b1 hres
    have b5 := new1 hk2
    have b2 : w2.heap[w.heap.size]? = some (.cells #[.int .i64 0, .slice none 0 0] 26 (0, 0)) := (hk2.block w.heap.size (by simp; omega) (fun f => f)).trans ((Go.heap_alloc_old w1 _ hgl).trans BB.out)
    have c0 := cell_at b2 0 _ rfl
    have c1 := cell_at b2 1 _ rfl
    have f0 := frozen_at b2 0
    have f1 := frozen_at b2 1
    have d0 := cell_at b5 0 _ rfl
    have d1 := cell_at b5 1 _ rfl
    have g0 := frozen_at b5 0
    have g1 := frozen_at b5 1
    have hg2 : w1.heap.size < w2.heap.size := cell_lt (a := ⟨w1.heap.size, 0, none⟩) d0
    have B2 := Lib.hid b2
    have B5 := Lib.hid b5
    simp only [World.alloc, Array.size_push] at hp
    have HP := Lib.hid hp
    have HK2 := Lib.hid (HK.out.then ((Kept.alloc Nob w1 _).then hk2))
    have hll2 : l.length < 1000000000 := by omega
    clear b2 b5 hp hk2 hres
    cases b1 with
    | false =>
      have HN := Lib.hid (obRes_none HRs.out)
      have HF := Lib.hid (objn_fin (.int .i64 0) (.slice none 0 0) B2.out HK2.out)
      clear HRs HOb
      go_wp2_with fail
      exact bodyPost_cell2 (p := 2) (u := 3) (ty := 26) (g := w.heap.size) (by kernel_rfl) rfl HF.out.1 Tryz.underlying26 rfl (by kernel_rfl) rfl (.inr ⟨HN.out, rfl, HF.out.2⟩)
    | true =>
      have HP3 := Lib.hid (HP.out.kept (kept1 w2 w1.heap.size 1 (.slice ua l.length uc)) (fun j (h1 : w1.heap.size + 1 ≤ j) (h2 : j = w1.heap.size) => by omega))
      have HOc := HOb _ 0 _ l _ HP3.out hll2
      obtain ⟨ov, hov⟩ : ∃ x, (⟨(obText ⟨0, l⟩).toArray⟩ : ByteArray) = x := ⟨_, rfl⟩
      rw [hov] at HOc
      have hoe : ov = sv ↔ obText ⟨0, l⟩ = s := by
        rw [← hov, ← HSv.out]
        exact ⟨fun h => mk_inj h, fun h => by rw [h]⟩
      have HOe := Lib.hid hoe
      clear hov hoe
      go_wp2_with fail
      refine HOc.out.mono ?_
      rintro e w3 ⟨rfl, hk3⟩
      have HF3 := Lib.hid (rp_fin (by omega) B2.out B5.out HP.out HK2.out hk3)
      have c0 := cell_at HF3.out.1 0 _ rfl
      have c1 := cell_at HF3.out.1 1 _ rfl
      have f0 := frozen_at HF3.out.1 0
      have f1 := frozen_at HF3.out.1 1
      have d0 := cell_at HF3.out.2.1 0 _ rfl
      have d1 := cell_at HF3.out.2.1 1 _ rfl
      have hls : sv.toList = s := by rw [← HSv.out, ByteArray.toList_eq]
      have hos : ov ≠ sv → (ov.toList == s) = false := fun hn => by
        rw [← hls]
        simp only [beq_eq_false_iff_ne, ne_eq]
        intro e
        apply hn
        rw [ByteArray.toList_eq, ByteArray.toList_eq] at e
        exact ByteArray.ext (Array.ext' e)
      clear hk3 HOb
      by_cases ho : ov = sv
      · subst ho
        by_cases hse : s = []
        · have HN : Hid (∀ ob, ObOk ob → obText ob ≠ s) := Lib.hid (fun ob ho e => obText_ne ho (e.trans hse))
          have HF := Lib.hid (objn_fin (.int .i64 0) (.slice none 0 0) HF3.out.1 HF3.out.2.2.2)
          have hse2 : ov.toList = [] := by rw [hls, hse]
          clear hls hos
          go_wp2_with fail
          exact bodyPost_cell2 (p := 2) (u := 3) (ty := 26) (g := w.heap.size) (by kernel_rfl) rfl HF.out.1 Tryz.underlying26 rfl (by kernel_rfl) rfl (.inr ⟨HN.out, rfl, HF.out.2⟩)
        · have HY := Lib.hid (HOe.out.1 rfl)
          have HYo : Hid (ObOk ⟨0, l⟩) := Lib.hid (obText_iff.1 (by rw [HY.out]; exact hse))
          have HF := Lib.hid (objn_fin (.int .i64 0) (.slice ua l.length uc) HF3.out.1 HF3.out.2.2.2)
          have HPf := Lib.hid (pts_fin (w := w) (n := w1.heap.size + 1) (.int .i64 0) (.slice ua l.length uc) (by omega) HF3.out.2.2.1)
          have hse2 : ov.toList.isEmpty = false := by rw [hls]; simpa using hse
          clear hls hos
          go_wp2_with fail
          exact bodyPost_cell2 (p := 2) (u := 3) (ty := 26) (g := w.heap.size) (by kernel_rfl) rfl HF.out.1 Tryz.underlying26 rfl (by kernel_rfl) rfl (.inl ⟨⟨0, l⟩, _, HYo.out, HY.out, rfl, HPf.out, HF.out.2⟩)
      · have HN := Lib.hid (obRes_other HRs.out (fun e => ho (HOe.out.2 e)))
        have HF := Lib.hid (objn_fin (.int .i64 0) (.slice none 0 0) HF3.out.1 HF3.out.2.2.2)
        have hos2 : (ov.toList == sv.toList) = false := by rw [hls]; exact hos ho
        clear hls hos
        go_wp2_with fail
        exact bodyPost_cell2 (p := 2) (u := 3) (ty := 26) (g := w.heap.size) (by kernel_rfl) rfl HF.out.1 Tryz.underlying26 rfl (by kernel_rfl) rfl (.inr ⟨HN.out, rfl, HF.out.2⟩)
end Go.Proofs.YthjiobmglebmdaaGreatDoor
