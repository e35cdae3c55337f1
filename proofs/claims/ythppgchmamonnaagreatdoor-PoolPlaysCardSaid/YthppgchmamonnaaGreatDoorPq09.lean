/- The document's own disk: Write. The document's own disk: Write that is done. The document's own disk: Write of a sector that did not wait. -/
import Derived.Test.YthppgchmamonnaaGreatDoorPq02
import Derived.Test.YthppgchmamonnaaGreatDoorPq08
namespace Go.Proofs.YthppgchmamonnaaGreatDoor
open Go.RowKit
theorem doc_write_range (w : World) (m : Nat) (d : Dsk) (R : Nat → Prop) (h : DocAt w m d R) (k : Int) (hk : k < 0 ∨ d.good.length ≤ k) (a : Option Addr) (n c : Nat) :
    Calls Tryz.prog 108 #[.pointer (some ⟨m, 0, none⟩), .int .i64 k, .slice a n c] w fun e w' => e = .returned (.int .i64 2) ∧ w = w' := by
  obtain ⟨gv, av, nv, gs, ns, left, hb, hR, h1, -, h3, h4, h5, -, -, -, hw, -⟩ := h
  have c0 := cell_at hb 0 _ rfl
  obtain ⟨ga, gc, rfl, -⟩ := h1.shape
  have hgl := h4.1
  rw [← hgl] at hk
  clear hb hR h1 h3 h4 h5 hw hgl
  generalize gs.length = n at *
  by_cases hn : k < 0
  · clear hk
    go_enter Tryz.func108, Tryz.ntmps108
    go_wp2
    go_ret
    exact ⟨rfl, rfl⟩
  · have hge : decide ((n : Int) ≤ k) = true := by simp; omega
    clear hk
    go_enter Tryz.func108, Tryz.ntmps108
    go_wp2
    go_ret
    exact ⟨rfl, rfl⟩
theorem doc_write_arg (w : World) (m : Nat) (d : Dsk) (R : Nat → Prop) (h : DocAt w m d R) (k : Nat) (hk : k < d.good.length) (a : Option Addr) (n c : Nat) (hn : n ≠ 64) :
    Calls Tryz.prog 108 #[.pointer (some ⟨m, 0, none⟩), .int .i64 k, .slice a n c] w fun e w' => e = .returned (.int .i64 1) ∧ w = w' := by
  obtain ⟨gv, av, nv, gs, ns, left, hb, hR, h1, -, h3, h4, h5, -, -, -, hw, -⟩ := h
  have c0 := cell_at hb 0 _ rfl
  obtain ⟨ga, gc, rfl, -⟩ := h1.shape
  have hgl := h4.1
  rw [← hgl] at hk
  have hlt : decide (gs.length ≤ k) = false := by simp; omega
  have hne : ((n : Int) == 64) = false := beq_eq_false_iff_ne.2 (by omega)
  have hne2 : ((n : Int) != 64) = true := by simp [bne, hne]
  clear hb hR h1 h3 h4 h5 hw hgl hn hk
  generalize gs.length = n at *
  go_enter Tryz.func108, Tryz.ntmps108
  go_wp2
  go_ret
  exact ⟨rfl, rfl⟩
theorem doc_write_off (w : World) (m : Nat) (d : Dsk) (R : Nat → Prop) (h : DocAt w m d R) (k : Nat) (hk : k < d.good.length) (a : Option Addr) (c : Nat) (hops : d.ops < 9223372036854775807) (hgo : d.goes = false) :
    Calls Tryz.prog 108 #[.pointer (some ⟨m, 0, none⟩), .int .i64 k, .slice a 64 c] w fun e w' => e = .returned (.int .i64 9) ∧ DocAt w' m d.begun R ∧ Kept (Just m) w w' := by
  have HO0 := doc_op w m d R h hops
  rw [hgo] at HO0
  have HO := Lib.hid HO0
  obtain ⟨gv, av, nv, gs, ns, left, hb, hR, h1, -, h3, h4, h5, -, -, -, hw, -⟩ := h
  have c0 := cell_at hb 0 _ rfl
  obtain ⟨ga, gc, rfl, -⟩ := h1.shape
  have hgl := h4.1
  rw [← hgl] at hk
  have hlt : decide (gs.length ≤ k) = false := by simp; omega
  clear hb hR h1 h3 h4 h5 hw hgl hk hgo HO0
  generalize gs.length = n at *
  go_enter Tryz.func108, Tryz.ntmps108
  go_wp2_with (go_at_call 109; refine HO.out.mono ?_; rintro e w1 ⟨rfl, hD1, hk1⟩)
  go_ret
  exact ⟨rfl, hD1, hk1⟩
theorem WaitRows.turn {w : World} {ns : List Value} {order : List Int} {now : List (List Value)} {R : Nat → Prop} (h : WaitRows w ns order now R) (ho : order.Nodup) (hp : ∀ k ∈ order, 0 ≤ k ∧ k < (now.length : Int))
    {i k : Nat} (hi : order[i]? = some (k : Int)) {v : Value} {x : List Value} (hv : Reads w v x R) : WaitRows w (ns.set i v) order (now.set k x) R := by
  refine ⟨by rw [List.length_set]; exact h.1, fun j u q hu hq => ?_⟩
  have hil : i < order.length := (List.getElem?_eq_some_iff.1 hi).1
  have hkm := hp _ (List.mem_of_getElem? hi)
  by_cases hij : i = j
  · subst hij
    rw [List.getElem?_set_self (by rw [h.1]; exact hil)] at hu
    obtain rfl := Option.some.inj hu
    obtain rfl := Option.some.inj (hi.symm.trans hq)
    rw [show ((k : Int).toNat) = k from rfl, List.getD_eq_getElem?_getD, List.getElem?_set_self (by omega)]
    exact hv
  · rw [List.getElem?_set_ne hij] at hu
    have hne : k ≠ q.toNat := fun e => by
      have h0 := (hp _ (List.mem_of_getElem? hq)).1
      obtain rfl : q = (k : Int) := by omega
      have hjl : j < order.length := (List.getElem?_eq_some_iff.1 hq).1
      exact hij ((List.getElem?_inj hil ho).1 (hi.trans hq.symm))
    rw [List.getD_eq_getElem?_getD, List.getElem?_set_ne hne, ← List.getD_eq_getElem?_getD]
    exact h.2 j u q hu hq
theorem WaitRows.snoc {w : World} {ns : List Value} {order : List Int} {now : List (List Value)} {R : Nat → Prop} (h : WaitRows w ns order now R) (hp : ∀ k ∈ order, 0 ≤ k ∧ k < (now.length : Int))
    {k : Nat} (hn : (k : Int) ∉ order) (hk : k < now.length) {v : Value} {x : List Value} (hv : Reads w v x R) : WaitRows w (ns ++ [v]) (order ++ [(k : Int)]) (now.set k x) R := by
  refine ⟨by simp [h.1], fun j u q hu hq => ?_⟩
  by_cases hj : j < order.length
  · rw [List.getElem?_append_left (by rw [h.1]; exact hj)] at hu
    rw [List.getElem?_append_left hj] at hq
    have hne : k ≠ q.toNat := fun e => by
      have h0 := (hp _ (List.mem_of_getElem? hq)).1
      obtain rfl : q = (k : Int) := by omega
      exact hn (List.mem_of_getElem? hq)
    rw [List.getD_eq_getElem?_getD, List.getElem?_set_ne hne, ← List.getD_eq_getElem?_getD]
    exact h.2 j u q hu hq
  · rw [List.getElem?_append_right (by omega)] at hq
    have h0 : j = order.length := by
      have := (List.getElem?_eq_some_iff.1 hq).1
      simp at this; omega
    subst h0
    rw [List.getElem?_append_right (by rw [h.1]; exact Nat.le_refl _), h.1] at hu
    simp at hu hq
    subst hu hq
    rw [show ((k : Int).toNat) = k from rfl, List.getD_eq_getElem?_getD, List.getElem?_set_self hk]
    exact hv
def RetDocWrite (w : World) (m : Nat) (d : Dsk) (R : Nat → Prop) (en : Ending) (w' : World) : Prop :=
  en = .returned (.int .i64 0) ∧ (∃ R', DocAt w' m d R' ∧ Grows R w.heap.size R') ∧ Kept (Just m) w w'
set_option maxRecDepth 100000 in
set_option maxHeartbeats 1000000 in
theorem doc_write_again (w : World) (m : Nat) (d : Dsk) (R : Nat → Prop) (h : DocAt w m d R) (k : Nat) (hk : k < d.good.length) (v : Value) (x : List Value) (G : Nat → Prop) (hx : Reads w v x G) (hxx : x.length = 64 ∧ ∀ u ∈ x, IsByte u)
    (hG : ¬ G m) (hops : d.ops < 9223372036854775807) (hgo : d.goes = true) (hmem : (k : Int) ∈ d.order) :
    Calls Tryz.prog 108 #[.pointer (some ⟨m, 0, none⟩), .int .i64 k, v] w (RetDocWrite w m (d.begun.put k x) R) := by
  have HO0 := doc_op w m d R h hops
  have hwf := (h.wf.begun).put (k := k) hk hxx
  rw [hgo] at HO0
  have HO := Lib.hid HO0
  have HWF := Lib.hid hwf
  have HX := Lib.hid hx
  have HXX := Lib.hid hxx
  obtain ⟨xa, xc, rfl, -⟩ := hx.shape
  have hxl := hxx.1
  rw [hxl] at HX ⊢
  have c0 : ∃ ga gn gc, w.cell? ⟨m, 0, none⟩ = some (.slice ga gn gc) ∧ k < gn := by
    obtain ⟨gv, av, nv, gs, ns, left, hb, hR, h1, -, h3, h4, h5, -, -, -, hw, -⟩ := h
    obtain ⟨ga, gc, rfl, -⟩ := h1.shape
    exact ⟨_, _, _, cell_at hb 0 _ rfl, by rw [h4.1]; exact hk⟩
  obtain ⟨ga, gn, gc, c0, hkn⟩ := c0
  have hlt : decide (gn ≤ k) = false := by simp; omega
  have hmem1 : Hid ((k : Int) ∈ d.begun.order) := Lib.hid hmem
  have hk1 : Hid (k < d.begun.good.length) := Lib.hid hk
  clear HO0 hwf hx hxx hxl hkn h hgo hmem hk
  generalize d.begun = d1 at *
  go_enter Tryz.func108, Tryz.ntmps108
  go_wp2_with fail
  refine HO.out.mono ?_
  rintro e w1 ⟨rfl, hD1, hk1'⟩
  have HX1 := Lib.hid (HX.out.kept hk1' (fun j hj hm => hG (by rw [show j = m from hm] at hj; exact hj)))
  have HK1 := Lib.hid hk1'
  have hml := hD1.lt
  have HD1 := Lib.hid hD1
  have HS := Lib.hid (fun u hu => (HXX.out.2 u hu).one : ∀ u ∈ x, u.oneCell' = true)
  clear hD1 hk1' c0 HO
  have hxl := HXX.out.1
  go_wp2_with (at_builtin; refine wpList_append_pg rfl _ _ 50 rfl tBytes (.slice (some ⟨w1.heap.size, 0, none⟩) 0 0) _ [] x (From w1.heap.size) G rfl rfl (Own.empty_new w1 _) (HX1.out.alloc _) HS.out (by have := HXX.out.1; simp; omega) ?_; intro b2 cap2 w2 ho2 hk2 _)
  have hkw : Kept Nob w1 w2 := by
    refine ((Kept.alloc Nob w1 _).from (n := w1.heap.size) (Nat.le_refl _) (hk2.mono ?_))
    intro j _ hj
    simp [Value.ownBlock, From] at *
    omega
  have HO2 := Lib.hid (show Own w2 5 (.slice b2 64 cap2) x (From w1.heap.size) from by
    have := ho2.mono (G := From w1.heap.size) (fun j _ hj => by simp [Value.ownBlock, From] at *; omega)
    simpa [hxl] using this)
  have HK2 := Lib.hid hkw
  have HD2 := Lib.hid (HD1.out.kept hkw (fun f => f) (fun _ _ f => f))
  clear hkw ho2 hk2 hxl HX HX1 HS
  have HP0 := doc_place w2 m d1 R HD2.out k
  obtain ⟨i, hi, hik⟩ := idx_at (k : Int) d1.order 0 hmem1.out
  rw [hi] at HP0
  have HP := Lib.hid HP0
  have HIK := Lib.hid hik
  have hil : i < d1.order.length := (List.getElem?_eq_some_iff.1 hik).1
  obtain ⟨gv, av, nv, gs, ns, left, hb, hR, h1, h2, h3, h4, h5, h6, h7, h8, hw, hu⟩ := HD2.out
  obtain ⟨na, nc, rfl, -⟩ := h3.shape
  have hnl : ns.length = d1.order.length := h5.1
  have hin : i < ns.length := by omega
  have hol := hw.orderLen
  have ka := Kept.alloc Nob w2 (.cells #[] 50)
  have hm2 : m < w2.heap.size := Nat.lt_of_lt_of_le hml HK2.out.size
  have hb2 := (ka.block m hm2 (fun f => f)).trans hb
  have c2 := cell_at hb2 2 _ rfl
  have f2 := frozen_at hb2 2
  have HE := Lib.hid (Own.empty_new w2 50)
  have H3 := Lib.hid (h3.kept ka (fun _ _ f => f))
  have HN1 : Hid (∀ u ∈ ns, u.oneCell' = true) := by
    intro u hu
    obtain ⟨j, hj, rfl⟩ := List.getElem_of_mem hu
    have hx : d1.order[j]? = some (d1.order[j]'(by omega)) := by simp
    obtain ⟨a, c, hv, -⟩ := (h5.2 j _ _ (List.getElem?_eq_getElem hj) hx).shape
    rw [hv]; rfl
  have HB := Lib.hid hb2
  have HH1 := Lib.hid h1
  have HH2 := Lib.hid h2
  have HH4 := Lib.hid h4
  have HH5 := Lib.hid h5
  have HW := Lib.hid hw
  have HR := Lib.hid hR
  have HU := Lib.hid hu
  have HL := Lib.hid h6
  have hnl2 : ns.length ≤ 8192 := by omega
  clear hb hb2 h1 h2 h3 h4 h5 hw hu hR h6 ka hi hik HP0 hnl
  go_wp2_with fail
  refine HP.out.mono ?_
  rintro e w2' ⟨rfl, rfl⟩
  have hpos : 0 < ns.length := by omega
  go_wp2_with (at_builtin; refine wpList_append_pg rfl _ _ 70 rfl tRows (.slice (some ⟨w2.heap.size, 0, none⟩) 0 0) _ [] ns _ R rfl rfl HE.out H3.out HN1.out (by simp; omega) ?_; intro b3 cap3 w3 ho3 hk3 _; obtain ⟨g3, rfl, hg3⟩ := own_fresh ho3 (n := w2.heap.size) (by simp [Value.ownBlock]; omega) trivial (by simpa using hpos); have hb3 := (hk3.block m (by simp; omega) (by simp [Value.ownBlock]; omega)).trans HB.out; have c2 := cell_at hb3 2 _ rfl; have f2 := frozen_at hb3 2; have ho3' : Own w3 50 (.slice (some ⟨g3, 0, none⟩) ns.length cap3) ns (Just g3) := own_just ho3 (by simp) (by simp); have cg := ho3'.cell i _ (List.getElem?_eq_getElem hin); have fg := ho3'.frozen i; have hmg : m ≠ g3 := (by omega); have HB3 := Lib.hid hb3; have HO3 := Lib.hid ho3'; have HK3 := Lib.hid hk3; clear hb3 ho3 hk3 ho3')
  go_ret
  have k5 : Kept (Just m) w2 (w3.setCell ⟨m, 2, none⟩ (.slice (some ⟨g3, 0, none⟩) ns.length cap3)) :=
    ((Kept.alloc Nob w2 (.cells #[] 50)).trans (G := fun k => (Value.slice (some ⟨w2.heap.size, 0, none⟩) 0 0).ownBlock = some k) HK3.out (fun j hj h => by simp [Value.ownBlock] at h; omega)).nob.trans' (kept1 w3 m 2 _)
  have k6 : Kept (Just g3) (w3.setCell ⟨m, 2, none⟩ (.slice (some ⟨g3, 0, none⟩) ns.length cap3)) ((w3.setCell ⟨m, 2, none⟩ (.slice (some ⟨g3, 0, none⟩) ns.length cap3)).setCell ⟨g3, i, none⟩ (.slice b2 64 cap2)) := kept1 _ g3 i _
  have k7 : Kept (Just m) w2 ((w3.setCell ⟨m, 2, none⟩ (.slice (some ⟨g3, 0, none⟩) ns.length cap3)).setCell ⟨g3, i, none⟩ (.slice b2 64 cap2)) := k5.trans k6 (fun j hj h => by rw [show j = g3 from h] at hj; omega)
  have hdR : Disj R (Just m) := fun j hj h => HR.out (by rw [show j = m from h] at hj; exact hj)
  have hs12 := HK2.out.size
  have hs01 := HK1.out.size
  have hg3l := HO3.out.blockLt (g := g3) rfl
  have hgo : Own ((w3.setCell ⟨m, 2, none⟩ (.slice (some ⟨g3, 0, none⟩) ns.length cap3)).setCell ⟨g3, i, none⟩ (.slice b2 64 cap2)) 50 (.slice (some ⟨g3, 0, none⟩) ns.length cap3) (ns.set i (.slice b2 64 cap2)) (Just g3) :=
    (HO3.out.kept (kept1 w3 m 2 _) (fun j hj h => by rw [show j = g3 from hj] at h; exact hmg (show g3 = m from h).symm)).set i _
  have hxr : Reads ((w3.setCell ⟨m, 2, none⟩ (.slice (some ⟨g3, 0, none⟩) ns.length cap3)).setCell ⟨g3, i, none⟩ (.slice b2 64 cap2)) (.slice b2 64 cap2) x (fun j => w1.heap.size ≤ j ∧ j < w2.heap.size) :=
    (HO2.out.reads.mono fun j hj h => ⟨h, hj⟩).kept k7 (fun j hj h => by rw [show j = m from h] at hj; omega)
  refine ⟨rfl, ⟨Por R (fun j => w1.heap.size ≤ j ∧ j < ((w3.setCell ⟨m, 2, none⟩ (.slice (some ⟨g3, 0, none⟩) ns.length cap3)).setCell ⟨g3, i, none⟩ (.slice b2 64 cap2)).heap.size),
    ⟨gv, av, .slice (some ⟨g3, 0, none⟩) ns.length cap3, gs, ns.set i (.slice b2 64 cap2), left, ?_, ?_, (HH1.out.kept k7 hdR).mono (fun _ _ h => .inl h), ?_, ?_, (HH4.out.kept k7 hdR).mono (fun _ _ h => .inl h), ?_, HL.out, h7, h8, HWF.out, ?_⟩, ?_⟩, ?_⟩
  · refine (k6.block m (by simp [World.setCell]; exact cell_lt c2) (fun h => hmg h)).trans ((heap_set w3 m 2 _ _ _ HB3.out).trans ?_)
    simp [Dsk.put]
  · intro h
    rcases h with h | h
    · exact HR.out h
    · omega
  · have e : (d1.put k x).order = d1.order := by simp [Dsk.put, hmem1.out]
    rw [e]; exact (HH2.out.kept k7 hdR).mono (fun _ _ h => .inl h)
  · exact hgo.reads.mono fun j hj h => .inr ⟨by rw [show j = g3 from h]; omega, hj⟩
  · have e : (d1.put k x).order = d1.order := by simp [Dsk.put, hmem1.out]
    rw [e]
    exact ((HH5.out.kept k7 hdR).mono (fun _ _ h => .inl h)).turn HW.out.once (fun q hq => by rw [HW.out.len]; exact HW.out.order q hq) HIK.out (hxr.mono fun j hj h => .inr ⟨h.1, hj⟩)
  · intro j hj
    rcases hj with hj | hj
    · have := HU.out j hj; have := k7.size; omega
    · exact hj.2
  · intro j hj
    rcases hj with hj | hj
    · exact .inl hj
    · exact .inr (by omega)
  · exact HK1.out.trans' ((HK2.out.nob).trans' k7)
set_option maxRecDepth 100000 in
set_option maxHeartbeats 1000000 in
theorem doc_write_new (w : World) (m : Nat) (d : Dsk) (R : Nat → Prop) (h : DocAt w m d R) (k : Nat) (hk : k < d.good.length) (v : Value) (x : List Value) (G : Nat → Prop) (hx : Reads w v x G) (hxx : x.length = 64 ∧ ∀ u ∈ x, IsByte u)
    (hG : ¬ G m) (hops : d.ops < 9223372036854775807) (hgo : d.goes = true) (hmem : (k : Int) ∉ d.order) :
    Calls Tryz.prog 108 #[.pointer (some ⟨m, 0, none⟩), .int .i64 k, v] w (RetDocWrite w m (d.begun.put k x) R) := by
  have HO0 := doc_op w m d R h hops
  have hwf := (h.wf.begun).put (k := k) hk hxx
  rw [hgo] at HO0
  have HO := Lib.hid HO0
  have HWF := Lib.hid hwf
  have HX := Lib.hid hx
  have HXX := Lib.hid hxx
  obtain ⟨xa, xc, rfl, -⟩ := hx.shape
  have hxl := hxx.1
  rw [hxl] at HX ⊢
  have c0 : ∃ ga gn gc, w.cell? ⟨m, 0, none⟩ = some (.slice ga gn gc) ∧ k < gn := by
    obtain ⟨gv, av, nv, gs, ns, left, hb, hR, h1, -, h3, h4, h5, -, -, -, hw, -⟩ := h
    obtain ⟨ga, gc, rfl, -⟩ := h1.shape
    exact ⟨_, _, _, cell_at hb 0 _ rfl, by rw [h4.1]; exact hk⟩
  obtain ⟨ga, gn, gc, c0, hkn⟩ := c0
  have hlt : decide (gn ≤ k) = false := by simp; omega
  have hmem1 : Hid ((k : Int) ∉ d.begun.order) := Lib.hid hmem
  have hk1 : Hid (k < d.begun.good.length) := Lib.hid hk
  clear HO0 hwf hx hxx hxl hkn h hgo hmem hk
  generalize d.begun = d1 at *
  go_enter Tryz.func108, Tryz.ntmps108
  go_wp2_with fail
  refine HO.out.mono ?_
  rintro e w1 ⟨rfl, hD1, hk1'⟩
  have HX1 := Lib.hid (HX.out.kept hk1' (fun j hj hm => hG (by rw [show j = m from hm] at hj; exact hj)))
  have HK1 := Lib.hid hk1'
  have hml := hD1.lt
  have HD1 := Lib.hid hD1
  have HS := Lib.hid (fun u hu => (HXX.out.2 u hu).one : ∀ u ∈ x, u.oneCell' = true)
  clear hD1 hk1' c0 HO
  have hxl := HXX.out.1
  go_wp2_with (at_builtin; refine wpList_append_pg rfl _ _ 50 rfl tBytes (.slice (some ⟨w1.heap.size, 0, none⟩) 0 0) _ [] x (From w1.heap.size) G rfl rfl (Own.empty_new w1 _) (HX1.out.alloc _) HS.out (by have := HXX.out.1; simp; omega) ?_; intro b2 cap2 w2 ho2 hk2 _)
  have hkw : Kept Nob w1 w2 := by
    refine ((Kept.alloc Nob w1 _).from (n := w1.heap.size) (Nat.le_refl _) (hk2.mono ?_))
    intro j _ hj
    simp [Value.ownBlock, From] at *
    omega
  have HO2 := Lib.hid (show Own w2 5 (.slice b2 64 cap2) x (From w1.heap.size) from by
    have := ho2.mono (G := From w1.heap.size) (fun j _ hj => by simp [Value.ownBlock, From] at *; omega)
    simpa [hxl] using this)
  have HK2 := Lib.hid hkw
  have HD2 := Lib.hid (HD1.out.kept hkw (fun f => f) (fun _ _ f => f))
  clear hkw ho2 hk2 hxl HX HX1 HS
  have HP0 := doc_place w2 m d1 R HD2.out k
  rw [idx_neg _ _ _ hmem1.out] at HP0
  have HP := Lib.hid HP0
  obtain ⟨gv, av, nv, gs, ns, left, hb, hR, h1, h2, h3, h4, h5, h6, h7, h8, hw, hu⟩ := HD2.out
  obtain ⟨aa, ac, rfl, -⟩ := h2.shape
  obtain ⟨na, nc, rfl, -⟩ := h3.shape
  have hnl : ns.length = d1.order.length := h5.1
  have hol := hw.orderLen
  have ka := Kept.alloc Nob w2 (.cells #[] 3)
  have hm2 : m < w2.heap.size := Nat.lt_of_lt_of_le hml HK2.out.size
  have hb2 := (ka.block m hm2 (fun f => f)).trans hb
  simp only [List.length_map] at hb2
  have c1 := cell_at hb2 1 _ rfl
  have f1 := frozen_at hb2 1
  have HE := Lib.hid (Own.empty_new w2 3)
  have h2' := h2
  rw [List.length_map] at h2'
  have H2 := Lib.hid (h2'.kept ka (fun _ _ f => f))
  have HO1 : Hid (∀ u ∈ d1.order.map (Value.int .i64), u.oneCell' = true) := by
    intro u hu
    rw [List.mem_map] at hu
    obtain ⟨j, -, rfl⟩ := hu; rfl
  have HN1 : Hid (∀ u ∈ ns, u.oneCell' = true) := by
    intro u hu
    obtain ⟨j, hj, rfl⟩ := List.getElem_of_mem hu
    have hx : d1.order[j]? = some (d1.order[j]'(by omega)) := by simp
    obtain ⟨a, c, hv, -⟩ := (h5.2 j _ _ (List.getElem?_eq_getElem hj) hx).shape
    rw [hv]; rfl
  have HB := Lib.hid hb2
  have HB0 := Lib.hid (show w2.heap[m]? = _ from by simpa only [List.length_map] using hb)
  have HH1 := Lib.hid h1
  have HH3 := Lib.hid h3
  have HH4 := Lib.hid h4
  have HH5 := Lib.hid h5
  have HW := Lib.hid hw
  have HR := Lib.hid hR
  have HU := Lib.hid hu
  have HL := Lib.hid h6
  have HNL := Lib.hid hnl
  have hnl2 : ns.length ≤ 8192 := by omega
  clear hb hb2 h1 h2 h2' h3 h4 h5 hw hu hR h6 ka HP0 hnl
  go_wp2_with fail
  refine HP.out.mono ?_
  rintro e w2' ⟨rfl, rfl⟩
  have hdR : Disj R (Just m) := fun j hj h => HR.out (by rw [show j = m from h] at hj; exact hj)
  have HDR := Lib.hid hdR
  clear hdR
  go_wp2_with (first
    | (at_builtin; refine wpList_append1_pg rfl _ _ 36 rfl tInts (.slice b3 d1.order.length cap3) (d1.order.map (Value.int .i64)) (.int .i64 k) (From w2.heap.size) ⟨w3.heap.size, 0, none⟩ 1 rfl rfl (HO3.out.alloc _) (by simp) rfl (Nat.le_refl _) rfl (by simp; omega) ?_; intro g4 cap4 w4 ho4 hk4; obtain ⟨q1, q2, q3⟩ := more_own1 HO3.out HK3.out ho4 hk4; rw [List.length_map] at q1; have hb4 := (q3.block m hm2 (fun f => f)).trans HB0.out; have c1 := cell_at hb4 1 _ rfl; have f1 := frozen_at hb4 1;
        have hb5 := heap_set w4 m 1 _ _ (.slice (some ⟨g4, 0, none⟩) (d1.order.length + 1) cap4) hb4; simp only [List.setIfInBounds_toArray, List.set] at hb5; have k5 : Kept (Just m) w2 (w4.setCell ⟨m, 1, none⟩ (.slice (some ⟨g4, 0, none⟩) (d1.order.length + 1) cap4)) := q3.nob.trans' (kept1 w4 m 1 _); have ka := Kept.alloc Nob (w4.setCell ⟨m, 1, none⟩ (.slice (some ⟨g4, 0, none⟩) (d1.order.length + 1) cap4)) (.cells #[] 50); have hb6 := (ka.block m (Nat.lt_of_lt_of_le hm2 k5.size) (fun f => f)).trans hb5; have c2 := cell_at hb6 2 _ rfl; have f2 := frozen_at hb6 2;
        have HE2 := Lib.hid (Own.empty_set w4 ⟨m, 1, none⟩ (.slice (some ⟨g4, 0, none⟩) (d1.order.length + 1) cap4) 50); have H3 := Lib.hid ((HH3.out.kept k5 HDR.out).kept ka (fun _ _ f => f)); have HB5 := Lib.hid hb5; have HK5 := Lib.hid k5; have HO4 := Lib.hid q1; have HG4 := Lib.hid q2; clear ho4 hk4 q1 q2 q3 hb4 hb5 hb6 k5 ka)
    | (at_builtin; refine wpList_append_pg rfl _ _ 36 rfl tInts (.slice (some ⟨w2.heap.size, 0, none⟩) 0 0) _ [] (d1.order.map (Value.int .i64)) _ R rfl rfl HE.out H2.out HO1.out (by simp; omega) ?_; intro b3 cap3 w3 ho3 hk3 _; obtain ⟨ho3', hk3'⟩ := more_own (W := w2) rfl (l' := d1.order.length) (ys := d1.order.map (Value.int .i64)) ho3 hk3 (by simp [Value.ownBlock]; omega) (by simp) (by simp); have HO3 := Lib.hid ho3'; have HK3 := Lib.hid hk3'; clear ho3 hk3 ho3' hk3')
    | (at_builtin; refine wpList_append1_pg rfl _ _ 70 rfl tRows (.slice b6 ns.length cap6) ns (.slice b2 64 cap2) (From (w4.setCell ⟨m, 1, none⟩ (.slice (some ⟨g4, 0, none⟩) (d1.order.length + 1) cap4)).heap.size) ⟨w6.heap.size, 0, none⟩ 1 rfl rfl (HO6.out.alloc _) (by simp) rfl (Nat.le_refl _) rfl (by omega) ?_; intro g7 cap7 w7 ho7 hk7; obtain ⟨q1, q2, q3⟩ := more_own1 HO6.out HK6.out ho7 hk7; have hb7 := (q3.block m (Nat.lt_of_lt_of_le hm2 HK5.out.size) (fun f => f)).trans HB5.out; have c2 := cell_at hb7 2 _ rfl; have f2 := frozen_at hb7 2; have HB7 := Lib.hid hb7; have HO7 := Lib.hid q1; have HG7 := Lib.hid q2; have HK7 := Lib.hid q3; clear ho7 hk7 q1 q2 q3 hb7)
    | (at_builtin; refine wpList_append_pg rfl _ _ 70 rfl tRows (.slice (some ⟨w4.heap.size, 0, none⟩) 0 0) _ [] ns _ R rfl rfl HE2.out H3.out HN1.out (by simp; omega) ?_; intro b6 cap6 w6 ho6 hk6 _; obtain ⟨ho6', hk6'⟩ := more_own (W := w4.setCell ⟨m, 1, none⟩ (.slice (some ⟨g4, 0, none⟩) (d1.order.length + 1) cap4)) (set_size _ _ _) (l' := ns.length) (ys := ns) ho6 hk6 (by simp [Value.ownBlock]; omega) (by simp) (by simp); have HO6 := Lib.hid ho6'; have HK6 := Lib.hid hk6'; clear ho6 hk6 ho6' hk6'))
  go_ret
  have hs12 := HK2.out.size
  have hs01 := HK1.out.size
  have hs5 : w2.heap.size ≤ w4.heap.size := by have := HK5.out.size; rw [set_size] at this; exact this
  have hg4 := HG4.out
  have hg7 : w4.heap.size ≤ g7 := by have := HG7.out; rw [set_size] at this; exact this
  have k6 : Kept (Just m) (w4.setCell ⟨m, 1, none⟩ (.slice (some ⟨g4, 0, none⟩) (d1.order.length + 1) cap4)) (w7.setCell ⟨m, 2, none⟩ (.slice (some ⟨g7, 0, none⟩) (ns.length + 1) cap7)) := HK7.out.nob.trans' (kept1 w7 m 2 _)
  have kf : Kept (Just m) w2 (w7.setCell ⟨m, 2, none⟩ (.slice (some ⟨g7, 0, none⟩) (ns.length + 1) cap7)) := HK5.out.trans' k6
  have hdR := HDR.out
  have hA := (HO4.out.kept (kept1 w4 m 1 (.slice (some ⟨g4, 0, none⟩) (d1.order.length + 1) cap4)) (fun j hj h => by rw [show j = g4 from hj] at h; have : g4 = m := h; omega)).kept k6 (fun j hj h => by rw [show j = g4 from hj] at h; have : g4 = m := h; omega)
  have hN := HO7.out.kept (kept1 w7 m 2 (.slice (some ⟨g7, 0, none⟩) (ns.length + 1) cap7)) (fun j hj h => by rw [show j = g7 from hj] at h; have : g7 = m := h; omega)
  have hxr : Reads (w7.setCell ⟨m, 2, none⟩ (.slice (some ⟨g7, 0, none⟩) (ns.length + 1) cap7)) (.slice b2 64 cap2) x (fun j => w1.heap.size ≤ j ∧ j < w2.heap.size) :=
    (HO2.out.reads.mono fun j hj h => ⟨h, hj⟩).kept kf (fun j hj h => by rw [show j = m from h] at hj; omega)
  have eo : (d1.put k x).order = d1.order ++ [(k : Int)] := by simp [Dsk.put, hmem1.out]
  refine ⟨rfl, ⟨Por R (fun j => w1.heap.size ≤ j ∧ j < (w7.setCell ⟨m, 2, none⟩ (.slice (some ⟨g7, 0, none⟩) (ns.length + 1) cap7)).heap.size),
    ⟨gv, .slice (some ⟨g4, 0, none⟩) (d1.order.length + 1) cap4, .slice (some ⟨g7, 0, none⟩) (ns.length + 1) cap7, gs, ns ++ [.slice b2 64 cap2], left, ?_, ?_, (HH1.out.kept kf hdR).mono (fun _ _ h => .inl h), ?_, ?_, (HH4.out.kept kf hdR).mono (fun _ _ h => .inl h), ?_, HL.out, h7, h8, HWF.out, ?_⟩, ?_⟩, ?_⟩
  · refine (heap_set w7 m 2 _ _ _ HB7.out).trans ?_
    simp [Dsk.put]
  · intro h
    rcases h with h | h
    · exact HR.out h
    · omega
  · rw [eo, List.map_append]
    exact hA.reads.mono fun j hj h => .inr ⟨by rw [show j = g4 from h]; omega, hj⟩
  · exact hN.reads.mono fun j hj h => .inr ⟨by rw [show j = g7 from h]; omega, hj⟩
  · rw [eo]
    exact ((HH5.out.kept kf hdR).mono (fun _ _ h => .inl h)).snoc (fun q hq => by rw [HW.out.len]; exact HW.out.order q hq) hmem1.out (by rw [HW.out.len]; exact hk1.out) (hxr.mono fun j hj h => .inr ⟨h.1, hj⟩)
  · intro j hj
    rcases hj with hj | hj
    · have := HU.out j hj; have := kf.size; omega
    · exact hj.2
  · intro j hj
    rcases hj with hj | hj
    · exact .inl hj
    · exact .inr (by omega)
  · exact HK1.out.trans' ((HK2.out.nob).trans' kf)
theorem doc_write (w : World) (m : Nat) (d : Dsk) (R : Nat → Prop) (h : DocAt w m d R) (k : Nat) (hk : k < d.good.length) (v : Value) (x : List Value) (G : Nat → Prop) (hx : Reads w v x G) (hxx : x.length = 64 ∧ ∀ u ∈ x, IsByte u)
    (hG : ¬ G m) (hops : d.ops < 9223372036854775807) (hgo : d.goes = true) :
    Calls Tryz.prog 108 #[.pointer (some ⟨m, 0, none⟩), .int .i64 k, v] w (RetDocWrite w m (d.begun.put k x) R) := by
  by_cases hm : (k : Int) ∈ d.order
  · exact doc_write_again w m d R h k hk v x G hx hxx hG hops hgo hm
  · exact doc_write_new w m d R h k hk v x G hx hxx hG hops hgo hm
end Go.Proofs.YthppgchmamonnaaGreatDoor
