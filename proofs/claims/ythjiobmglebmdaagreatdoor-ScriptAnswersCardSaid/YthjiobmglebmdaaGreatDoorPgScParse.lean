/- script: an object of a text. -/
import Derived.Test.YthjiobmglebmdaaGreatDoorPgScPts
namespace Go.Proofs.YthjiobmglebmdaaGreatDoor
open Go.RowKit
open Go.Proofs.YthjiobmglebmdaaGreatDoor.Geo Go.Proofs.YthjiobmglebmdaaGreatDoor.Txt

theorem sp_ne (s : List UInt8) : sp s ≠ [] := by
  cases s with
  | nil => simp [sp]
  | cons b r => rw [sp]; split <;> simp
theorem sp_len : ∀ s : List UInt8, (sp s).length ≤ s.length + 1 ∧ ∀ x ∈ sp s, x.length ≤ s.length
  | [] => by simp [sp]
  | b :: r => by
    have ⟨h1, h2⟩ := sp_len r
    rw [sp]
    split
    · refine ⟨by simp; omega, fun x hx => ?_⟩
      simp only [List.mem_cons] at hx
      rcases hx with rfl | hx
      · simp
      · have := h2 x hx; simp; omega
    · have hne := sp_ne r
      cases hr : sp r with
      | nil => exact absurd hr hne
      | cons y t =>
        rw [hr] at h1 h2
        simp only [List.headD_cons, List.tail_cons, List.length_cons] at h1 ⊢
        refine ⟨by omega, fun x hx => ?_⟩
        simp only [List.mem_cons] at hx
        rcases hx with rfl | hx
        · have := h2 y (by simp); simp; omega
        · have := h2 x (by simp [hx]); omega
/-- how a text is read as an object -/
def ObRes (s : List UInt8) (k : Int) (l : List Pt) (b : Bool) : Prop := ∀ ob, ObOk ob → s = obText ob → k = ob.kind ∧ l = ob.pts ∧ b = true
theorem ObRes.words {s : List UInt8} {ob : Ob} (h : ObOk ob) (he : s = obText ob) : sp s = obWord ob.kind :: obTail ob := by rw [he, sp_obText h, obWords_eq]
/-- no word of an object -/
theorem obRes_no {s h : List UInt8} {t : List (List UInt8)} (hs : sp s = h :: t) (h1 : h ≠ wPoint) (h2 : h ≠ wInterval) (h3 : h ≠ wBox) (h4 : h ≠ wPoly) (k : Int) (l : List Pt) (b : Bool) : ObRes s k l b := fun ob ho he => by
  have := ObRes.words ho he
  rw [hs, List.cons.injEq] at this
  have hw := this.1
  rcases ho.four with e | e | e | e <;> rw [e] at hw
  · exact absurd hw h1
  · exact absurd hw h2
  · exact absurd hw h3
  · exact absurd hw h4
theorem obRes_plain {s : List UInt8} {t : List (List UInt8)} {k : Int} (hk : k = 1 ∨ k = 3 ∨ k = 4) (hs : sp s = obWord k :: t) {l : List Pt} {b : Bool} (hp : PtsRes t l b) : ObRes s k l b := fun ob ho he => by
  have := ObRes.words ho he
  rw [hs, List.cons.injEq] at this
  have hkk : k = ob.kind := by
    have hw := this.1
    rcases ho.four with e | e | e | e <;> rcases hk with rfl | rfl | rfl <;> rw [e] at hw ⊢ <;> exact absurd hw (by decide)
  have ht := this.2
  rw [obTail_else (by omega)] at ht
  obtain ⟨e1, e2⟩ := hp ob.pts ho.pts_ok ht
  exact ⟨hkk, e1, e2⟩
theorem obRes_two_no {s : List UInt8} {t : List (List UInt8)} (hs : sp s = wInterval :: t) (hl : t.length ≠ 2) (k : Int) (l : List Pt) (b : Bool) : ObRes s k l b := fun ob ho he => by
  have := ObRes.words ho he
  rw [hs, List.cons.injEq] at this
  have hk : ob.kind = 2 := by
    have hw := this.1
    rcases ho.four with e | e | e | e <;> rw [e] at hw ⊢ <;> exact absurd hw (by decide)
  obtain ⟨m, n, e⟩ := obTail_two ho hk
  rw [this.2, e] at hl
  simp at hl
theorem obRes_two {s x y : List UInt8} (hs : sp s = [wInterval, x, y]) {l : List Pt} {b : Bool} (hp : PtsRes [x ++ 44 :: y] l b) : ObRes s 2 l b := fun ob ho he => by
  have := ObRes.words ho he
  rw [hs, List.cons.injEq] at this
  have hk : ob.kind = 2 := by
    have hw := this.1
    rcases ho.four with e | e | e | e <;> rw [e] at hw ⊢ <;> exact absurd hw (by decide)
  have ht := this.2
  have hok := ho.pts_ok
  rcases ho with ⟨h, _⟩ | ⟨_, p, hpp, _⟩ | ⟨h, _⟩ | ⟨h, _⟩
  · omega
  · unfold obTail at ht
    rw [if_pos hk, hpp] at ht
    simp only [List.map_cons, List.map_nil, List.flatten_cons, List.flatten_nil, List.append_nil, List.cons.injEq, and_true] at ht
    obtain ⟨e1, e2⟩ := hp [p] (by rw [← hpp]; exact hok) (by rw [ht.1, ht.2]; rfl)
    exact ⟨hk.symm, by rw [hpp]; exact e1, e2⟩
  · omega
  · omega
/-! walked -/
/-- s[1:] of a row whose room is its length -/
theorem Reads.tail1 {w : World} {b n : Nat} {x : Value} {xs : List Value} {F : Nat → Prop} (h : Reads w (.slice (some ⟨b, 0, none⟩) n n) (x :: xs) F) : Reads w (.slice (some (if n = 1 then ⟨b, 0, none⟩ else ⟨b, 1, none⟩)) (n - 1) (n - 1)) xs F := by
  have hn := h.len
  simp only [List.length_cons] at hn
  cases xs with
  | nil =>
    simp only [List.length_nil] at hn
    subst hn
    exact .inl ⟨rfl, _, _, rfl, fun h => by cases h⟩
  | cons y r =>
    simp only [List.length_cons] at hn
    rw [if_neg (by omega)]
    have := h.dropped 1 (by simp)
    simpa using this
theorem obj_fin {w w2 : World} {T : TypeId} {u0 v0 : Value} {u : Value} {l : List Pt} {n : Nat} (k : Int) (hg : w.heap.size < n) (hb : w2.heap[w.heap.size]? = some (.cells #[u0, v0] T (0, 0))) (hk : Kept Nob w w2) (hp : PtsAt w2 u l (From n)) :
    (((w2.setCell ⟨w.heap.size, 1, none⟩ u).setCell ⟨w.heap.size, 0, none⟩ (.int .i64 k)).setCell ⟨w.heap.size, 1, none⟩ u).heap[w.heap.size]? = some (.cells #[.int .i64 k, u] T (0, 0)) ∧
    PtsAt (((w2.setCell ⟨w.heap.size, 1, none⟩ u).setCell ⟨w.heap.size, 0, none⟩ (.int .i64 k)).setCell ⟨w.heap.size, 1, none⟩ u) u l (From w.heap.size) ∧
    Kept Nob w (((w2.setCell ⟨w.heap.size, 1, none⟩ u).setCell ⟨w.heap.size, 0, none⟩ (.int .i64 k)).setCell ⟨w.heap.size, 1, none⟩ u) := by
  have K : Kept (Just w.heap.size) w2 (((w2.setCell ⟨w.heap.size, 1, none⟩ u).setCell ⟨w.heap.size, 0, none⟩ (.int .i64 k)).setCell ⟨w.heap.size, 1, none⟩ u) :=
    ((kept1 w2 w.heap.size 1 u).trans' (kept1 _ w.heap.size 0 _)).trans' (kept1 _ w.heap.size 1 u)
  refine ⟨?_, ?_, hk.from (Nat.le_refl _) (K.mono fun j _ (h : j = w.heap.size) => Nat.le_of_eq h.symm)⟩
  · exact heap_setCell_same _ _ 1 _ T u (heap_setCell_same _ _ 0 _ T _ (heap_setCell_same w2 _ 1 _ T u hb))
  · exact (hp.kept K (fun j (h1 : n ≤ j) (h2 : j = w.heap.size) => by omega)).mono fun j _ (h1 : n ≤ j) => show w.heap.size ≤ j by omega
theorem PtsAt.nils (w : World) (F : Nat → Prop) : PtsAt w (.slice none 0 0) [] F := ⟨rfl, .inl ⟨rfl, none, 0, rfl, fun _ => rfl⟩⟩
theorem objn_fin {w w2 : World} {T : TypeId} {u0 v0 : Value} (k : Value) (v : Value) (hb : w2.heap[w.heap.size]? = some (.cells #[u0, v0] T (0, 0))) (hk : Kept Nob w w2) :
    ((w2.setCell ⟨w.heap.size, 0, none⟩ k).setCell ⟨w.heap.size, 1, none⟩ v).heap[w.heap.size]? = some (.cells #[k, v] T (0, 0)) ∧
    Kept Nob w ((w2.setCell ⟨w.heap.size, 0, none⟩ k).setCell ⟨w.heap.size, 1, none⟩ v) := by
  obtain ⟨h1, h2⟩ := set2 (T := T) k v hb
  exact ⟨h1, hk.from (Nat.le_refl _) (h2.mono fun j _ (h : j = w.heap.size) => Nat.le_of_eq h.symm)⟩
set_option maxRecDepth 100000 in
set_option maxHeartbeats 8000000 in
theorem script_object (w : World) (s : List UInt8) (hs : s.length ≤ 400000) (hE : Env w) :
    Calls Tryz.prog 39 #[strV s] w fun e w' => ∃ k u l b, e = .returned (.tuple #[.agg #[.int .i64 k, u], .bool b]) ∧ PtsAt w' u l (From w.heap.size) ∧ l.length ≤ 1000000 ∧ ObRes s k l b ∧ Kept Nob w w' := by
  have hlen := sp_len s
  have HSp := fun (wx : World) (kx : Kept Nob w wx) => Lib.hid (str_split wx s (by omega) (hE.kept kx))
  have HE := Lib.hid hE
  obtain ⟨h, t, hht⟩ : ∃ h t, sp s = h :: t := by
    cases hsp : sp s with
    | nil => exact absurd hsp (sp_ne s)
    | cons h t => exact ⟨h, t, rfl⟩
  have HS := Lib.hid hht
  rw [hht] at hlen
  have HL := Lib.hid hlen
  have hl1 : (sp s).length = t.length + 1 := by rw [hht]; rfl
  have hn1 : t.length + 1 ≤ s.length + 1 := by simpa using hlen.1
  have HPts := fun (wx : World) (kx : Kept Nob w wx) (v : Value) (F : Nat → Prop) (hr : Reads wx v (t.map strV) F) => Lib.hid (script_points wx v t F hr (by omega) (fun x hx => by have := hlen.2 x (by simp [hx]); omega) (hE.kept kx))
  simp only [hht, List.map_cons] at HSp
  clear hlen hE hht hl1
  obtain ⟨sv, hsv⟩ : ∃ u, (⟨s.toArray⟩ : ByteArray) = u := ⟨_, rfl⟩
  obtain ⟨hv, hhv⟩ : ∃ u, (⟨h.toArray⟩ : ByteArray) = u := ⟨_, rfl⟩
  simp only [strV, hsv, hhv] at HSp ⊢
  have HHv := Lib.hid hhv
  clear hsv hhv
  have hl : hv.toList = h := by rw [← HHv.out, ByteArray.toList_eq]
  have HI := fun (d : List UInt8) (hd : h ≠ d) => Lib.hid (show (hv.toList == d) = false by rw [hl]; exact beq_eq_false_iff_ne.2 hd)
  have HJ := fun (d : List UInt8) (hd : h = d) => Lib.hid (show (hv.toList == d) = true by rw [hl]; exact beq_iff_eq.2 hd)
  clear hl
  go_enter Tryz.func39, Tryz.ntmps39
  go_wp2_with fail
  refine (HSp _ (Kept.alloc Nob _ _)).out.mono ?_
  rintro e w1 ⟨b, rfl, hr, hk1⟩
  have HR := Lib.hid hr
  obtain ⟨b', o', e', hb, hF0, c0⟩ := hr.at' (i := 0) rfl
  have HF0 := Lib.hid hF0
  clear hF0
  simp only [Option.some.injEq, Addr.mk.injEq, and_true] at e'
  obtain ⟨rfl, rfl⟩ := e'
  have bb := new1 hk1
  have c1 := cell_at bb 0 _ rfl
  have c2 := cell_at bb 1 _ rfl
  have f1 := frozen_at bb 0
  have f2 := frozen_at bb 1
  have BB := Lib.hid bb
  have HK := Lib.hid ((Kept.alloc Nob w _).then hk1)
  have HKl := Lib.hid hk1
  have hgl : w.heap.size < w1.heap.size := cell_lt (a := ⟨w.heap.size, 0, none⟩) c1
  clear hr bb hk1
  by_cases n2 : h = wInterval
  case neg =>
    by_cases n1 : h = wPoint
    case pos =>
      have b2 : (hv.toList == [105, 110, 116, 101, 114, 118, 97, 108]) = false := (HI wInterval n2).out
      have b1 : (hv.toList == [112, 111, 105, 110, 116]) = true := (HJ wPoint n1).out
      have HSk : Hid (sp s = obWord 1 :: t) := Lib.hid (by rw [HS.out, n1]; rfl)
      have HB1 := Lib.hid (heap_setCell_same w1 w.heap.size 0 _ 26 (.int .i64 1) BB.out)
      have HKs := Lib.hid (HK.out.from (Nat.le_refl _) (Kept.setCell (F := From w.heap.size) w1 ⟨w.heap.size, 0, none⟩ (.int .i64 1) (Nat.le_refl _)))
      clear HI HJ n2 n1
      cases t with
      | nil =>
        simp only [List.map_nil, List.length_nil] at *
        go_wp2_with fail
        refine (HPts _ HKs.out _ (fun _ => True) (.inl ⟨rfl, _, _, rfl, fun h => by cases h⟩)).out.mono ?_
        rintro e w2 ⟨u, b2, l, rfl, hp, hll, hres, hk2⟩
        obtain ⟨ua, uc, rfl⟩ := hp.shape
        have HPt := Lib.hid hp
        have HLl := Lib.hid hll
        have HK2 := Lib.hid (HKs.out.then hk2)
        have HB2 := Lib.hid ((hk2.block w.heap.size (by simpa using hgl) (fun f => f)).trans HB1.out)
        have c3 := cell_at HB2.out 0 _ rfl
        have c4 := cell_at HB2.out 1 _ rfl
        have f3 := frozen_at HB2.out 0
        have f4 := frozen_at HB2.out 1
        have HRs := Lib.hid (obRes_plain (s := s) (t := _) (k := 1) (by omega) HSk.out hres)
        clear hp hll hres hk2 c0 c1 c2 f1 f2
        have HE := Lib.hid (obj_fin 1 (by simpa using hgl) HB2.out HK2.out HPt.out)
        go_wp2_with fail
        exact bodyPost_cell2 (p := 2) (u := 3) (ty := 26) (g := w.heap.size) (by kernel_rfl) rfl HE.out.1 Tryz.underlying26 rfl (by kernel_rfl) rfl ⟨_, _, l, _, rfl, HE.out.2.1, Nat.le_trans HLl.out (by simp), HRs.out, HE.out.2.2⟩
      | cons x r =>
        have HRd := Lib.hid ((HR.out.kept (Kept.setCell (F := Just w.heap.size) w1 ⟨w.heap.size, 0, none⟩ (.int .i64 1) rfl) (fun j h1 (h2 : j = w.heap.size) => by have h3 : (w.alloc (.cells #[.int .i64 0, .slice none 0 0] 26)).heap.size ≤ j := h1; simp at h3; omega)).tail1)
        simp only [List.length_cons] at *
        have hne : ¬ (r.length + 1 + 1 = 1) := by omega
        rw [if_neg hne] at HRd
        have hn0 : ¬ (r.length + 1 = 0) := by omega
        simp only [Nat.add_sub_cancel] at HRd
        go_wp2_with fail
        refine (HPts _ HKs.out _ _ HRd.out).out.mono ?_
        rintro e w2 ⟨u, b2, l, rfl, hp, hll, hres, hk2⟩
        obtain ⟨ua, uc, rfl⟩ := hp.shape
        have HPt := Lib.hid hp
        have HLl := Lib.hid hll
        have HK2 := Lib.hid (HKs.out.then hk2)
        have HB2 := Lib.hid ((hk2.block w.heap.size (by simpa using hgl) (fun f => f)).trans HB1.out)
        have c3 := cell_at HB2.out 0 _ rfl
        have c4 := cell_at HB2.out 1 _ rfl
        have f3 := frozen_at HB2.out 0
        have f4 := frozen_at HB2.out 1
        have HRs := Lib.hid (obRes_plain (s := s) (t := _) (k := 1) (by omega) HSk.out hres)
        clear hp hll hres hk2 c0 c1 c2 f1 f2
        have HE := Lib.hid (obj_fin 1 (by simpa using hgl) HB2.out HK2.out HPt.out)
        go_wp2_with fail
        exact bodyPost_cell2 (p := 2) (u := 3) (ty := 26) (g := w.heap.size) (by kernel_rfl) rfl HE.out.1 Tryz.underlying26 rfl (by kernel_rfl) rfl ⟨_, _, l, _, rfl, HE.out.2.1, Nat.le_trans HLl.out (by omega), HRs.out, HE.out.2.2⟩
    case neg =>
      by_cases n3 : h = wBox
      case pos =>
        have b2 : (hv.toList == [105, 110, 116, 101, 114, 118, 97, 108]) = false := (HI wInterval n2).out
        have b1 : (hv.toList == [112, 111, 105, 110, 116]) = false := (HI wPoint n1).out
        have b3 : (hv.toList == [98, 111, 120]) = true := (HJ wBox n3).out
        have HSk : Hid (sp s = obWord 3 :: t) := Lib.hid (by rw [HS.out, n3]; rfl)
        have HB1 := Lib.hid (heap_setCell_same w1 w.heap.size 0 _ 26 (.int .i64 3) BB.out)
        have HKs := Lib.hid (HK.out.from (Nat.le_refl _) (Kept.setCell (F := From w.heap.size) w1 ⟨w.heap.size, 0, none⟩ (.int .i64 3) (Nat.le_refl _)))
        clear HI HJ n2 n1 n3
        cases t with
        | nil =>
          simp only [List.map_nil, List.length_nil] at *
          go_wp2_with fail
          refine (HPts _ HKs.out _ (fun _ => True) (.inl ⟨rfl, _, _, rfl, fun h => by cases h⟩)).out.mono ?_
          rintro e w2 ⟨u, b2, l, rfl, hp, hll, hres, hk2⟩
          obtain ⟨ua, uc, rfl⟩ := hp.shape
          have HPt := Lib.hid hp
          have HLl := Lib.hid hll
          have HK2 := Lib.hid (HKs.out.then hk2)
          have HB2 := Lib.hid ((hk2.block w.heap.size (by simpa using hgl) (fun f => f)).trans HB1.out)
          have c3 := cell_at HB2.out 0 _ rfl
          have c4 := cell_at HB2.out 1 _ rfl
          have f3 := frozen_at HB2.out 0
          have f4 := frozen_at HB2.out 1
          have HRs := Lib.hid (obRes_plain (s := s) (t := _) (k := 3) (by omega) HSk.out hres)
          clear hp hll hres hk2 c0 c1 c2 f1 f2
          have HE := Lib.hid (obj_fin 3 (by simpa using hgl) HB2.out HK2.out HPt.out)
          go_wp2_with fail
          exact bodyPost_cell2 (p := 2) (u := 3) (ty := 26) (g := w.heap.size) (by kernel_rfl) rfl HE.out.1 Tryz.underlying26 rfl (by kernel_rfl) rfl ⟨_, _, l, _, rfl, HE.out.2.1, Nat.le_trans HLl.out (by simp), HRs.out, HE.out.2.2⟩
        | cons x r =>
          have HRd := Lib.hid ((HR.out.kept (Kept.setCell (F := Just w.heap.size) w1 ⟨w.heap.size, 0, none⟩ (.int .i64 3) rfl) (fun j h1 (h2 : j = w.heap.size) => by have h3 : (w.alloc (.cells #[.int .i64 0, .slice none 0 0] 26)).heap.size ≤ j := h1; simp at h3; omega)).tail1)
          simp only [List.length_cons] at *
          have hne : ¬ (r.length + 1 + 1 = 1) := by omega
          rw [if_neg hne] at HRd
          have hn0 : ¬ (r.length + 1 = 0) := by omega
          simp only [Nat.add_sub_cancel] at HRd
          go_wp2_with fail
          refine (HPts _ HKs.out _ _ HRd.out).out.mono ?_
          rintro e w2 ⟨u, b2, l, rfl, hp, hll, hres, hk2⟩
          obtain ⟨ua, uc, rfl⟩ := hp.shape
          have HPt := Lib.hid hp
          have HLl := Lib.hid hll
          have HK2 := Lib.hid (HKs.out.then hk2)
          have HB2 := Lib.hid ((hk2.block w.heap.size (by simpa using hgl) (fun f => f)).trans HB1.out)
          have c3 := cell_at HB2.out 0 _ rfl
          have c4 := cell_at HB2.out 1 _ rfl
          have f3 := frozen_at HB2.out 0
          have f4 := frozen_at HB2.out 1
          have HRs := Lib.hid (obRes_plain (s := s) (t := _) (k := 3) (by omega) HSk.out hres)
          clear hp hll hres hk2 c0 c1 c2 f1 f2
          have HE := Lib.hid (obj_fin 3 (by simpa using hgl) HB2.out HK2.out HPt.out)
          go_wp2_with fail
          exact bodyPost_cell2 (p := 2) (u := 3) (ty := 26) (g := w.heap.size) (by kernel_rfl) rfl HE.out.1 Tryz.underlying26 rfl (by kernel_rfl) rfl ⟨_, _, l, _, rfl, HE.out.2.1, Nat.le_trans HLl.out (by omega), HRs.out, HE.out.2.2⟩
      case neg =>
        by_cases n4 : h = wPoly
        case pos =>
          have b2 : (hv.toList == [105, 110, 116, 101, 114, 118, 97, 108]) = false := (HI wInterval n2).out
          have b1 : (hv.toList == [112, 111, 105, 110, 116]) = false := (HI wPoint n1).out
          have b3 : (hv.toList == [98, 111, 120]) = false := (HI wBox n3).out
          have b4 : (hv.toList == [112, 111, 108, 121]) = true := (HJ wPoly n4).out
          have HSk : Hid (sp s = obWord 4 :: t) := Lib.hid (by rw [HS.out, n4]; rfl)
          have HB1 := Lib.hid (heap_setCell_same w1 w.heap.size 0 _ 26 (.int .i64 4) BB.out)
          have HKs := Lib.hid (HK.out.from (Nat.le_refl _) (Kept.setCell (F := From w.heap.size) w1 ⟨w.heap.size, 0, none⟩ (.int .i64 4) (Nat.le_refl _)))
          clear HI HJ n2 n1 n3 n4
          cases t with
          | nil =>
            simp only [List.map_nil, List.length_nil] at *
            go_wp2_with fail
            refine (HPts _ HKs.out _ (fun _ => True) (.inl ⟨rfl, _, _, rfl, fun h => by cases h⟩)).out.mono ?_
            rintro e w2 ⟨u, b2, l, rfl, hp, hll, hres, hk2⟩
            obtain ⟨ua, uc, rfl⟩ := hp.shape
            have HPt := Lib.hid hp
            have HLl := Lib.hid hll
            have HK2 := Lib.hid (HKs.out.then hk2)
            have HB2 := Lib.hid ((hk2.block w.heap.size (by simpa using hgl) (fun f => f)).trans HB1.out)
            have c3 := cell_at HB2.out 0 _ rfl
            have c4 := cell_at HB2.out 1 _ rfl
            have f3 := frozen_at HB2.out 0
            have f4 := frozen_at HB2.out 1
            have HRs := Lib.hid (obRes_plain (s := s) (t := _) (k := 4) (by omega) HSk.out hres)
            clear hp hll hres hk2 c0 c1 c2 f1 f2
            have HE := Lib.hid (obj_fin 4 (by simpa using hgl) HB2.out HK2.out HPt.out)
            go_wp2_with fail
            exact bodyPost_cell2 (p := 2) (u := 3) (ty := 26) (g := w.heap.size) (by kernel_rfl) rfl HE.out.1 Tryz.underlying26 rfl (by kernel_rfl) rfl ⟨_, _, l, _, rfl, HE.out.2.1, Nat.le_trans HLl.out (by simp), HRs.out, HE.out.2.2⟩
          | cons x r =>
            have HRd := Lib.hid ((HR.out.kept (Kept.setCell (F := Just w.heap.size) w1 ⟨w.heap.size, 0, none⟩ (.int .i64 4) rfl) (fun j h1 (h2 : j = w.heap.size) => by have h3 : (w.alloc (.cells #[.int .i64 0, .slice none 0 0] 26)).heap.size ≤ j := h1; simp at h3; omega)).tail1)
            simp only [List.length_cons] at *
            have hne : ¬ (r.length + 1 + 1 = 1) := by omega
            rw [if_neg hne] at HRd
            have hn0 : ¬ (r.length + 1 = 0) := by omega
            simp only [Nat.add_sub_cancel] at HRd
            go_wp2_with fail
            refine (HPts _ HKs.out _ _ HRd.out).out.mono ?_
            rintro e w2 ⟨u, b2, l, rfl, hp, hll, hres, hk2⟩
            obtain ⟨ua, uc, rfl⟩ := hp.shape
            have HPt := Lib.hid hp
            have HLl := Lib.hid hll
            have HK2 := Lib.hid (HKs.out.then hk2)
            have HB2 := Lib.hid ((hk2.block w.heap.size (by simpa using hgl) (fun f => f)).trans HB1.out)
            have c3 := cell_at HB2.out 0 _ rfl
            have c4 := cell_at HB2.out 1 _ rfl
            have f3 := frozen_at HB2.out 0
            have f4 := frozen_at HB2.out 1
            have HRs := Lib.hid (obRes_plain (s := s) (t := _) (k := 4) (by omega) HSk.out hres)
            clear hp hll hres hk2 c0 c1 c2 f1 f2
            have HE := Lib.hid (obj_fin 4 (by simpa using hgl) HB2.out HK2.out HPt.out)
            go_wp2_with fail
            exact bodyPost_cell2 (p := 2) (u := 3) (ty := 26) (g := w.heap.size) (by kernel_rfl) rfl HE.out.1 Tryz.underlying26 rfl (by kernel_rfl) rfl ⟨_, _, l, _, rfl, HE.out.2.1, Nat.le_trans HLl.out (by omega), HRs.out, HE.out.2.2⟩
        case neg =>
          have b2 : (hv.toList == [105, 110, 116, 101, 114, 118, 97, 108]) = false := (HI wInterval n2).out
          have b1 : (hv.toList == [112, 111, 105, 110, 116]) = false := (HI wPoint n1).out
          have b3 : (hv.toList == [98, 111, 120]) = false := (HI wBox n3).out
          have b4 : (hv.toList == [112, 111, 108, 121]) = false := (HI wPoly n4).out
          have HN : Hid (ObRes s 0 [] false) := Lib.hid (obRes_no HS.out n1 n2 n3 n4 0 [] false)
          clear HI HJ n1 n2 n3 n4 HPts
          have HE := Lib.hid (objn_fin (.int .i64 0) (.slice none 0 0) BB.out HK.out)
          go_wp2_with fail
          exact bodyPost_cell2 (p := 2) (u := 3) (ty := 26) (g := w.heap.size) (by kernel_rfl) rfl HE.out.1 Tryz.underlying26 rfl (by kernel_rfl) rfl ⟨0, _, [], _, rfl, PtsAt.nils _ _, by simp, HN.out, HE.out.2⟩
  case pos =>
    have b2 : (hv.toList == [105, 110, 116, 101, 114, 118, 97, 108]) = true := (HJ wInterval n2).out
    have HSk : Hid (sp s = wInterval :: t) := Lib.hid (by rw [HS.out, n2])
    have HB1 := Lib.hid (heap_setCell_same w1 w.heap.size 0 _ 26 (.int .i64 2) BB.out)
    have HKs := Lib.hid (HK.out.from (Nat.le_refl _) (Kept.setCell (F := From w.heap.size) w1 ⟨w.heap.size, 0, none⟩ (.int .i64 2) (Nat.le_refl _)))
    clear HI HJ n2 HPts
    by_cases ht2 : t.length = 2
    case neg =>
      have hb3 : (((t.length : Int) + 1) != 3) = true := by simp; omega
      have HN : Hid (ObRes s 2 [] false) := Lib.hid (obRes_two_no HSk.out ht2 2 [] false)
      have HE := Lib.hid (objn_fin (.int .i64 2) (.slice none 0 0) HB1.out HKs.out)
      go_wp2_with fail
      exact bodyPost_cell2 (p := 2) (u := 3) (ty := 26) (g := w.heap.size) (by kernel_rfl) rfl HE.out.1 Tryz.underlying26 rfl (by kernel_rfl) rfl ⟨2, _, [], _, rfl, PtsAt.nils _ _, by simp, HN.out, HE.out.2⟩
    case pos =>
      obtain ⟨x, y, rfl⟩ : ∃ x y, t = [x, y] := by
        cases t with
        | nil => simp at ht2
        | cons x r =>
          cases r with
          | nil => simp at ht2
          | cons y r =>
            cases r with
            | nil => exact ⟨x, y, rfl⟩
            | cons z r => simp at ht2
      have hxl := HL.out.2 x (by simp)
      have hyl := HL.out.2 y (by simp)
      have HPts := fun (wx : World) (kx : Kept Nob w wx) (v : Value) (F : Nat → Prop) (hr : Reads wx v ([x ++ 44 :: y].map strV) F) => Lib.hid (script_points wx v [x ++ 44 :: y] F hr (by simp) (fun z hz => by simp only [List.mem_cons, List.not_mem_nil, or_false] at hz; subst hz; simp only [List.length_append, List.length_cons]; omega) (HE.out.kept kx))
      have HRs := fun l b => Lib.hid (@obRes_two s x y HSk.out l b)
      obtain ⟨_, _, e', -, -, d1⟩ := HR.out.at' (i := 1) (v := strV x) rfl
      simp only [Option.some.injEq, Addr.mk.injEq, and_true] at e'
      obtain ⟨rfl, rfl⟩ := e'
      obtain ⟨_, _, e', -, -, d2⟩ := HR.out.at' (i := 2) (v := strV y) rfl
      simp only [Option.some.injEq, Addr.mk.injEq, and_true] at e'
      obtain ⟨rfl, rfl⟩ := e'
      have hbg : b ≠ w.heap.size := by
        have h3 : (w.alloc (.cells #[.int .i64 0, .slice none 0 0] 26)).heap.size ≤ b := HF0.out
        simp at h3; omega
      simp only [List.length_cons, List.length_nil, Nat.zero_add, Nat.reduceAdd] at *
      go_wp2_with fail
      have hbW : b < (w1.setCell ⟨w.heap.size, 0, none⟩ (.int .i64 2)).heap.size := by simpa using hb
      have HKW := Lib.hid (Kept.setCell (F := Just w.heap.size) w1 ⟨w.heap.size, 0, none⟩ (.int .i64 2) rfl)
      have d1' := (HKW.out.cell (p := ⟨b, 1, none⟩) hb hbg).trans d1
      have d2' := (HKW.out.cell (p := ⟨b, 2, none⟩) hb hbg).trans d2
      have hgW : w.heap.size < (w1.setCell ⟨w.heap.size, 0, none⟩ (.int .i64 2)).heap.size := by simpa using hgl
      clear c0 c1 c2 f1 f2 d1 d2 HKW
      unfold strV at d1' d2'
      obtain ⟨tx, htx⟩ : ∃ u, (⟨x.toArray⟩ : ByteArray) = u := ⟨_, rfl⟩
      obtain ⟨ty, hty⟩ : ∃ u, (⟨y.toArray⟩ : ByteArray) = u := ⟨_, rfl⟩
      have sx : tx.size ≤ 400001 := by rw [← htx]; show x.toArray.size ≤ _; simp; omega
      have sy : ty.size ≤ 400001 := by rw [← hty]; show y.toArray.size ≤ _; simp; omega
      have HXY : Hid (strV (x ++ 44 :: y) = .string ((tx ++ ⟨#[44]⟩) ++ ty)) := Lib.hid (by
        have e1 := strV_append x [44]
        have e2 := strV_append (x ++ [44]) y
        rw [← htx, ← hty, show (⟨#[44]⟩ : ByteArray) = ⟨[44].toArray⟩ from rfl, e1, e2]
        simp [strV])
      rw [htx] at d1'
      rw [hty] at d2'
      clear htx hty
      generalize w1.setCell ⟨w.heap.size, 0, none⟩ (.int .i64 2) = W1 at *
      go_region
      have HKw : Hid (Kept Nob W1 (W1.alloc (.cells #[.string ⟨#[]⟩, .string ((tx ++ ⟨#[44]⟩) ++ ty)] 9)).drew) := Lib.hid ((Kept.alloc Nob W1 _).then (Kept.drew _ _))
      have HRd : Hid (Reads (W1.alloc (.cells #[.string ⟨#[]⟩, .string ((tx ++ ⟨#[44]⟩) ++ ty)] 9)).drew (.slice (some ⟨W1.heap.size, 1, none⟩) 1 1) ([x ++ 44 :: y].map strV) (fun _ => True)) := Lib.hid (by
        refine .inr ⟨W1.heap.size, 1, 1, rfl, Nat.le_refl _, by simp, trivial, fun i v hi => ?_⟩
        cases i with
        | succ i => simp at hi
        | zero =>
          simp only [List.map_cons, List.map_nil, List.getElem?_cons_zero, Option.some.injEq] at hi
          rw [← hi, HXY.out]
          exact cell_at (heap_alloc_new W1 _) 1 _ rfl)
      have HB3 := Lib.hid ((HKw.out.block w.heap.size hgW (fun f => f)).trans HB1.out)
      have hgW2 : w.heap.size < (W1.alloc (.cells #[.string ⟨#[]⟩, .string ((tx ++ ⟨#[44]⟩) ++ ty)] 9)).drew.heap.size := by simp; omega
      have HKz := Lib.hid (HKs.out.then HKw.out)
      clear HKw d1' d2' sx sy hbW hgW
      generalize (W1.alloc (.cells #[.string ⟨#[]⟩, .string ((tx ++ ⟨#[44]⟩) ++ ty)] 9)).drew = W2 at *
      go_wp2_with fail
      refine (HPts _ HKz.out _ _ HRd.out).out.mono ?_
      rintro e w2 ⟨u, b2, l, rfl, hp, hll, hres, hk2⟩
      obtain ⟨ua, uc, rfl⟩ := hp.shape
      have HPt := Lib.hid hp
      have HLl := Lib.hid hll
      have HK2 := Lib.hid (HKz.out.then hk2)
      have HB2 := Lib.hid ((hk2.block w.heap.size hgW2 (fun f => f)).trans HB3.out)
      have c3 := cell_at HB2.out 0 _ rfl
      have c4 := cell_at HB2.out 1 _ rfl
      have f3 := frozen_at HB2.out 0
      have f4 := frozen_at HB2.out 1
      have HR2 := Lib.hid ((HRs l b2).out hres)
      clear hp hll hres hk2 HRs
      have HE := Lib.hid (obj_fin 2 hgW2 HB2.out HK2.out HPt.out)
      go_wp2_with fail
      exact bodyPost_cell2 (p := 2) (u := 3) (ty := 26) (g := w.heap.size) (by kernel_rfl) rfl HE.out.1 Tryz.underlying26 rfl (by kernel_rfl) rfl ⟨_, _, l, _, rfl, HE.out.2.1, Nat.le_trans HLl.out (by simp), HR2.out, HE.out.2.2⟩

theorem fault_fin {w w2 : World} {u : Value} {op : ByteArray} {id c : Int} {n : Nat} (k v : Value) (hg : w.heap.size < n) (hf : FaultAt w2 u op id c (From n)) :
    FaultAt ((w2.setCell ⟨w.heap.size, 0, none⟩ k).setCell ⟨w.heap.size, 1, none⟩ v) u op id c (From w.heap.size) :=
  (hf.kept ((kept1 w2 w.heap.size 0 k).trans' (kept1 _ w.heap.size 1 v)) (fun j (h1 : n ≤ j) (h2 : j = w.heap.size) => by omega)).mono fun j _ (h1 : n ≤ j) => show w.heap.size ≤ j by omega
theorem pts_fin {w w2 : World} {u : Value} {l : List Pt} {n : Nat} (k v : Value) (hg : w.heap.size + 1 ≤ n) (hp : PtsAt w2 u l (From n)) :
    PtsAt ((w2.setCell ⟨w.heap.size, 0, none⟩ k).setCell ⟨w.heap.size, 1, none⟩ v) u l (From w.heap.size) :=
  (hp.kept ((kept1 w2 w.heap.size 0 k).trans' (kept1 _ w.heap.size 1 v)) (fun j (h1 : n ≤ j) (h2 : j = w.heap.size) => by omega)).mono fun j _ (h1 : n ≤ j) => show w.heap.size ≤ j by omega
/-- how a text is read as an object, behind the call -/
def ParseRes (w : World) (s : List UInt8) (e : Ending) (w' : World) : Prop :=
  (∃ ob u, ObOk ob ∧ obText ob = s ∧ e = .returned (.tuple #[.agg #[.int .i64 ob.kind, u], .nilIface]) ∧ PtsAt w' u ob.pts (From w.heap.size) ∧ Kept Nob w w') ∨
  ((∀ ob, ObOk ob → obText ob ≠ s) ∧ ∃ u, e = .returned (.tuple #[.agg #[.int .i64 0, .slice none 0 0], u]) ∧ FaultAt w' u ⟨#[115, 99, 114, 105, 112, 116]⟩ 0 10 (From w.heap.size) ∧ Kept Nob w w')
set_option maxRecDepth 100000 in
set_option maxHeartbeats 8000000 in
theorem script_Parse (w : World) (s : List UInt8) (hs : s.length ≤ 400000) (hE : Env w) :
    Calls Tryz.prog 17 #[strV s] w (ParseRes w s) := by
  have HO := fun (wx : World) (kx : Kept Nob w wx) => Lib.hid (script_object wx s hs (hE.kept kx))
  have HE := Lib.hid hE
  have HBd := fun (wx : World) => Lib.hid (script_bad wx)
  obtain ⟨sv, hsv⟩ : ∃ u, (⟨s.toArray⟩ : ByteArray) = u := ⟨_, rfl⟩
  simp only [strV, hsv] at HO ⊢
  have HSv := Lib.hid hsv
  clear hsv hE
  go_enter Tryz.func17, Tryz.ntmps17
  go_wp2_with fail
  refine (HO _ (Kept.alloc Nob _ _)).out.mono ?_
  rintro e w1 ⟨k, u, l, b1, rfl, hp, hll, hres, hk1⟩
  obtain ⟨ua, uc, rfl⟩ := hp.shape
  have bb := new1 hk1
  have c0 := cell_at bb 0 _ rfl
  have c1 := cell_at bb 1 _ rfl
  have f0 := frozen_at bb 0
  have f1 := frozen_at bb 1
  have BB := Lib.hid bb
  have HP := Lib.hid hp
  have HRs := Lib.hid hres
  have HK := Lib.hid ((Kept.alloc Nob w _).then hk1)
  clear bb hk1 hp hres
  have hgl : w.heap.size < w1.heap.size := cell_lt (a := ⟨w.heap.size, 0, none⟩) c0
  have hls : sv.toList = s := by rw [← HSv.out, ByteArray.toList_eq]
  cases b1 with
  | false =>
    have HN : Hid (∀ ob, ObOk ob → obText ob ≠ s) := Lib.hid (fun ob ho e => by
      have := (HRs.out ob ho e.symm).2.2
      cases this)
    clear hls
    go_wp2_with fail
    refine (HBd _).out.mono ?_
    rintro e w3 ⟨ub, rfl, hf, hk3⟩
    have HKx := Lib.hid (HK.out.then ((Kept.alloc Nob w1 _).then hk3))
    have HB3 := Lib.hid ((((Kept.alloc Nob w1 _).then hk3).block w.heap.size hgl (fun f => f)).trans BB.out)
    have c3 := cell_at HB3.out 0 _ rfl
    have c4 := cell_at HB3.out 1 _ rfl
    have f3 := frozen_at HB3.out 0
    have f4 := frozen_at HB3.out 1
    have HE2 := Lib.hid (objn_fin (.int .i64 0) (.slice none 0 0) HB3.out HKx.out)
    have HF := Lib.hid (fault_fin (.int .i64 0) (.slice none 0 0) (Nat.lt_of_lt_of_le hgl (Kept.alloc Nob w1 _).size) hf)
    obtain ⟨gb, rfl, -⟩ := hf
    clear hk3 c0 c1 f0 f1
    go_wp2_with fail
    exact bodyPost_cell2 (p := 2) (u := 3) (ty := 26) (g := w.heap.size) (by kernel_rfl) rfl HE2.out.1 Tryz.underlying26 rfl (by kernel_rfl) rfl (.inr ⟨HN.out, _, rfl, HF.out, HE2.out.2⟩)
  | true =>
    by_cases hs0 : s = []
    · have HN : Hid (∀ ob, ObOk ob → obText ob ≠ s) := Lib.hid (fun ob ho e => obText_ne ho (e.trans hs0))
      have hb0 : (sv.toList == []) = true := by rw [hls, hs0]; rfl
      clear hls hs0
      go_wp2_with fail
      refine (HBd _).out.mono ?_
      rintro e w3 ⟨ub, rfl, hf, hk3⟩
      have HKx := Lib.hid (HK.out.then ((Kept.alloc Nob w1 _).then hk3))
      have HB3 := Lib.hid ((((Kept.alloc Nob w1 _).then hk3).block w.heap.size hgl (fun f => f)).trans BB.out)
      have c3 := cell_at HB3.out 0 _ rfl
      have c4 := cell_at HB3.out 1 _ rfl
      have f3 := frozen_at HB3.out 0
      have f4 := frozen_at HB3.out 1
      have HE2 := Lib.hid (objn_fin (.int .i64 0) (.slice none 0 0) HB3.out HKx.out)
      have HF := Lib.hid (fault_fin (.int .i64 0) (.slice none 0 0) (Nat.lt_of_lt_of_le hgl (Kept.alloc Nob w1 _).size) hf)
      obtain ⟨gb, rfl, -⟩ := hf
      clear hk3 c0 c1 f0 f1
      go_wp2_with fail
      exact bodyPost_cell2 (p := 2) (u := 3) (ty := 26) (g := w.heap.size) (by kernel_rfl) rfl HE2.out.1 Tryz.underlying26 rfl (by kernel_rfl) rfl (.inr ⟨HN.out, _, rfl, HF.out, HE2.out.2⟩)
    · have hb0 : (sv.toList == []) = false := by rw [hls]; exact beq_eq_false_iff_ne.2 hs0
      have HS0 := Lib.hid hs0
      have HOb := fun (wx : World) (kx : Kept Nob w1 wx) => Lib.hid (script_Object wx k _ l _ (HP.out.nob kx) (by omega) (HE.out.kept (HK.out.then kx)))
      obtain ⟨tv, htv⟩ : ∃ u, (⟨(obText ⟨k, l⟩).toArray⟩ : ByteArray) = u := ⟨_, rfl⟩
      simp only [strV, htv] at HOb
      have hlt : tv.toList = obText ⟨k, l⟩ := by rw [← htv, ByteArray.toList_eq]
      by_cases heq : obText ⟨k, l⟩ = s
      · have hb1 : (tv.toList == sv.toList) = true := by rw [hlt, hls, heq]; exact beq_iff_eq.2 rfl
        have hb2 : (tv.toList != sv.toList) = false := by simp [bne, hb1]
        have HOk : Hid (ObOk ⟨k, l⟩) := Lib.hid (obText_iff.1 (by rw [heq]; exact hs0))
        have HEq := Lib.hid heq
        have HE3 := fun (W : World) (hb : W.heap[w.heap.size]? = some (.cells #[.int .i64 0, .slice none 0 0] 26 (0, 0))) (hk : Kept Nob w W) => Lib.hid (objn_fin (.int .i64 k) (.slice ua l.length uc) hb hk)
        clear hls hlt htv heq hs0
        go_wp2_with fail
        refine (HOb _ (Kept.alloc _ _ _)).out.mono ?_
        rintro e w3 ⟨rfl, hk3⟩
        have HK3 := Lib.hid (HK.out.then ((Kept.alloc Nob w1 _).then hk3))
        have HB3 := Lib.hid ((((Kept.alloc Nob w1 _).then hk3).block w.heap.size hgl (fun f => f)).trans BB.out)
        have HB4 := Lib.hid (new1 hk3)
        have c3 := cell_at HB3.out 0 _ rfl
        have c4 := cell_at HB3.out 1 _ rfl
        have f3 := frozen_at HB3.out 0
        have f4 := frozen_at HB3.out 1
        have c5 := cell_at HB4.out 0 _ rfl
        have c6 := cell_at HB4.out 1 _ rfl
        have HPe := Lib.hid (pts_fin (w := w) (n := (w.alloc (.cells #[.int .i64 0, .slice none 0 0] 26)).heap.size) (.int .i64 k) (.slice ua l.length uc) (by simp) (HP.out.nob ((Kept.alloc Nob w1 _).then hk3)))
        have HEe := HE3 _ HB3.out HK3.out
        clear hk3 c0 c1 f0 f1 HE3
        go_wp2_with fail
        exact bodyPost_cell2 (p := 2) (u := 3) (ty := 26) (g := w.heap.size) (by kernel_rfl) rfl HEe.out.1 Tryz.underlying26 rfl (by kernel_rfl) rfl (.inl ⟨⟨k, l⟩, _, HOk.out, HEq.out, rfl, HPe.out, HEe.out.2⟩)
      · have hb1 : (tv.toList == sv.toList) = false := by rw [hlt, hls]; exact beq_eq_false_iff_ne.2 heq
        have hb2 : (tv.toList != sv.toList) = true := by simp [bne, hb1]
        have HN : Hid (∀ ob, ObOk ob → obText ob ≠ s) := Lib.hid (fun ob ho e => by
          obtain ⟨e1, e2, -⟩ := HRs.out ob ho e.symm
          subst e1 e2
          exact heq e)
        clear hls hlt htv heq hs0
        go_wp2_with fail
        refine (HOb _ (Kept.alloc _ _ _)).out.mono ?_
        rintro e w2 ⟨rfl, hk2⟩
        have HKy := Lib.hid ((Kept.alloc Nob w1 _).then hk2)
        clear hk2
        go_wp2_with fail
        refine (HBd _).out.mono ?_
        rintro e w3 ⟨ub, rfl, hf, hk3⟩
        have HKx := Lib.hid (HK.out.then (HKy.out.then hk3))
        have HB3 := Lib.hid (((HKy.out.then hk3).block w.heap.size hgl (fun f => f)).trans BB.out)
        have c3 := cell_at HB3.out 0 _ rfl
        have c4 := cell_at HB3.out 1 _ rfl
        have f3 := frozen_at HB3.out 0
        have f4 := frozen_at HB3.out 1
        have HE2 := Lib.hid (objn_fin (.int .i64 0) (.slice none 0 0) HB3.out HKx.out)
        have HF := Lib.hid (fault_fin (.int .i64 0) (.slice none 0 0) (Nat.lt_of_lt_of_le hgl HKy.out.size) hf)
        obtain ⟨gb, rfl, -⟩ := hf
        clear hk3 c0 c1 f0 f1
        go_wp2_with fail
        exact bodyPost_cell2 (p := 2) (u := 3) (ty := 26) (g := w.heap.size) (by kernel_rfl) rfl HE2.out.1 Tryz.underlying26 rfl (by kernel_rfl) rfl (.inr ⟨HN.out, _, rfl, HF.out, HE2.out.2⟩)
end Go.Proofs.YthjiobmglebmdaaGreatDoor
