/- The document's own disk: Write that is done. -/
import Derived.Test.YthjjckpgjfjokaaDoorPgDoc6
namespace Go.Proofs.YthjjckpgjfjokaaDoor
open Go.RowKit

/-- a sector that waits is written again -/
theorem WaitRows.turn {w : World} {ns : List Value} {order : List Int} {now : List (List Value)} {R : Nat → Prop} (h : WaitRows w ns order now R) (ho : order.Nodup) (hp : ∀ k ∈ order, 0 ≤ k ∧ k < (now.length : Int))
    {i k : Nat} (hi : order[i]? = some (k : Int)) {v : Value} {x : List Value} (hv : Reads w v x R) : WaitRows w (ns.set i v) order (now.set k x) R := by
  refine ⟨by rw [List.length_set]; exact h.1, fun j u q hu hq => ?_⟩
  have hil : i < order.length := (List.getElem?_eq_some_iff.1 hi).1
  have hkm := hp _ (List.mem_of_getElem? hi)
  by_cases hij : i = j
  · subst hij
    rw [List.getElem?_set_self (by rw [h.1]; exact hil)] at hu
    obtain rfl := Option.some.inj hu
    obtain rfl := Option.some.inj (hi.symm.trans hq)
    rw [show ((k : Int).toNat) = k from rfl, List.getD_eq_getElem?_getD, List.getElem?_set_self (by omega)]
    exact hv
  · rw [List.getElem?_set_ne hij] at hu
    have hne : k ≠ q.toNat := fun e => by
      have h0 := (hp _ (List.mem_of_getElem? hq)).1
      obtain rfl : q = (k : Int) := by omega
      have hjl : j < order.length := (List.getElem?_eq_some_iff.1 hq).1
      exact hij ((List.getElem?_inj hil ho).1 (hi.trans hq.symm))
    rw [List.getD_eq_getElem?_getD, List.getElem?_set_ne hne, ← List.getD_eq_getElem?_getD]
    exact h.2 j u q hu hq
/-- one sector more waits -/
theorem WaitRows.snoc {w : World} {ns : List Value} {order : List Int} {now : List (List Value)} {R : Nat → Prop} (h : WaitRows w ns order now R) (hp : ∀ k ∈ order, 0 ≤ k ∧ k < (now.length : Int))
    {k : Nat} (hn : (k : Int) ∉ order) (hk : k < now.length) {v : Value} {x : List Value} (hv : Reads w v x R) : WaitRows w (ns ++ [v]) (order ++ [(k : Int)]) (now.set k x) R := by
  refine ⟨by simp [h.1], fun j u q hu hq => ?_⟩
  by_cases hj : j < order.length
  · rw [List.getElem?_append_left (by rw [h.1]; exact hj)] at hu
    rw [List.getElem?_append_left hj] at hq
    have hne : k ≠ q.toNat := fun e => by
      have h0 := (hp _ (List.mem_of_getElem? hq)).1
      obtain rfl : q = (k : Int) := by omega
      exact hn (List.mem_of_getElem? hq)
    rw [List.getD_eq_getElem?_getD, List.getElem?_set_ne hne, ← List.getD_eq_getElem?_getD]
    exact h.2 j u q hu hq
  · rw [List.getElem?_append_right (by omega)] at hq
    have h0 : j = order.length := by
      have := (List.getElem?_eq_some_iff.1 hq).1
      simp at this; omega
    subst h0
    rw [List.getElem?_append_right (by rw [h.1]; exact Nat.le_refl _), h.1] at hu
    simp at hu hq
    subst hu hq
    rw [show ((k : Int).toNat) = k from rfl, List.getD_eq_getElem?_getD, List.getElem?_set_self hk]
    exact hv

/-- a slice that append made where there was none -/
theorem own_fresh {w : World} {e : TypeId} {b : Option Addr} {l cap : Nat} {xs : List Value} {G : Nat → Prop} (h : Own w e (.slice b l cap) xs G) {n : Nat} (hG : ∀ k, G k → n ≤ k) (_ : True) (hp : 0 < xs.length) : ∃ g, b = some ⟨g, 0, none⟩ ∧ n ≤ g := by
  rcases h.shape with ⟨_, hz⟩ | ⟨g, c', cur, hx, hg, _⟩
  · simp [hz] at hp
  · simp only [Value.slice.injEq] at hx
    exact ⟨g, hx.1, hG g hg⟩
theorem own_just {w : World} {e : TypeId} {g l cap l' : Nat} {xs ys : List Value} {G : Nat → Prop} (h : Own w e (.slice (some ⟨g, 0, none⟩) l cap) xs G) (hl : l = l') (hx : xs = ys) : Own w e (.slice (some ⟨g, 0, none⟩) l' cap) ys (Just g) := by
  subst hl hx
  exact ⟨h.1, fun j hj => by simp [Value.ownBlock] at hj; exact hj.symm⟩
theorem set_size (w : World) (a : Addr) (v : Value) : (w.setCell a v).heap.size = w.heap.size := by simp [World.setCell]
theorem Own.empty_set (w : World) (a : Addr) (v : Value) (e : TypeId) : Own ((w.setCell a v).alloc (.cells #[] e)) e (.slice (some ⟨w.heap.size, 0, none⟩) 0 0) [] (From w.heap.size) := by
  have := Own.empty_new (w.setCell a v) e
  rwa [set_size] at this
/-- behind append(T{}, x...) -/
theorem more_own {W w' : World} {n : Nat} (hn : W.heap.size = n) {e : TypeId} {b : Option Addr} {l l' cap : Nat} {xs ys : List Value} {G : Nat → Prop} {o : Obj} (h : Own w' e (.slice b l cap) xs G) (hk : Kept (fun k => (Value.slice (some ⟨n, 0, none⟩) 0 0).ownBlock = some k) (W.alloc o) w')
    (hG : ∀ k, G k → W.heap.size ≤ k) (hl : l = l') (hx : xs = ys) : Own w' e (.slice b l' cap) ys (From W.heap.size) ∧ Kept Nob W w' := by
  subst hn hl hx
  exact ⟨h.mono fun k _ hk => hG k hk, (Kept.alloc Nob W o).from (Nat.le_refl _) (hk.mono fun j _ hj => by simp [Value.ownBlock] at hj; show _ ≤ _; omega)⟩
/-- behind append(s, x) on such a row -/
theorem more_own1 {W w3 w' : World} {e : TypeId} {b : Option Addr} {l l' cap g cap' : Nat} {xs ys : List Value} {o : Obj} (h0 : Own w3 e (.slice b l cap) xs (From W.heap.size)) (hk0 : Kept Nob W w3)
    (h : Own w' e (.slice (some ⟨g, 0, none⟩) l' cap') ys (fun k => (Value.slice b l cap).ownBlock = some k ∨ (w3.alloc o).heap.size ≤ k)) (hk : Kept (fun k => (Value.slice b l cap).ownBlock = some k) (w3.alloc o) w') :
    Own w' e (.slice (some ⟨g, 0, none⟩) l' cap') ys (Just g) ∧ W.heap.size ≤ g ∧ Kept Nob W w' := by
  have hs := hk0.size
  refine ⟨own_just h rfl rfl, ?_, (hk0.then (Kept.alloc Nob w3 o)).from (Nat.le_refl _) (hk.mono fun j _ hj => h0.2 j hj)⟩
  rcases h.2 g rfl with hg | hg
  · exact h0.2 g hg
  · simp at hg; omega
/-- behind the document's Write that is done -/
def RetDocWrite (w : World) (m : Nat) (d : Dsk) (R : Nat → Prop) (en : Ending) (w' : World) : Prop :=
  en = .returned (.int .i64 0) ∧ (∃ R', DocAt w' m d R' ∧ Grows R w.heap.size R') ∧ Kept (Just m) w w'

set_option maxRecDepth 100000 in
set_option maxHeartbeats 1000000 in
theorem doc_write_again (w : World) (m : Nat) (d : Dsk) (R : Nat → Prop) (h : DocAt w m d R) (k : Nat) (hk : k < d.good.length) (v : Value) (x : List Value) (G : Nat → Prop) (hx : Reads w v x G) (hxx : x.length = 64 ∧ ∀ u ∈ x, IsByte u)
    (hG : ¬ G m) (hops : d.ops < 9223372036854775807) (hgo : d.goes = true) (hmem : (k : Int) ∈ d.order) :
    Calls Tryd.prog 19 #[.pointer (some ⟨m, 0, none⟩), .int .i64 k, v] w (RetDocWrite w m (d.begun.put k x) R) := by
  have HO0 := doc_op w m d R h hops
  have hwf := (h.wf.begun).put (k := k) hk hxx
  rw [hgo] at HO0
  have HO := Lib.hid HO0
  have HWF := Lib.hid hwf
  have HX := Lib.hid hx
  have HXX := Lib.hid hxx
  obtain ⟨xa, xc, rfl, -⟩ := hx.shape
  have hxl := hxx.1
  rw [hxl] at HX ⊢
  have c0 : ∃ ga gn gc, w.cell? ⟨m, 0, none⟩ = some (.slice ga gn gc) ∧ k < gn := by
    obtain ⟨gv, av, nv, gs, ns, left, hb, hR, h1, -, h3, h4, h5, -, -, -, hw, -⟩ := h
    obtain ⟨ga, gc, rfl, -⟩ := h1.shape
    exact ⟨_, _, _, cell_at hb 0 _ rfl, by rw [h4.1]; exact hk⟩
  obtain ⟨ga, gn, gc, c0, hkn⟩ := c0
  have hlt : decide (gn ≤ k) = false := by simp; omega
  have hmem1 : Hid ((k : Int) ∈ d.begun.order) := Lib.hid hmem
  have hk1 : Hid (k < d.begun.good.length) := Lib.hid hk
  clear HO0 hwf hx hxx hxl hkn h hgo hmem hk
  generalize d.begun = d1 at *
  go_enter Tryd.func19, Tryd.ntmps19
  go_wp2_with fail
  refine HO.out.mono ?_
  rintro e w1 ⟨rfl, hD1, hk1'⟩
  have HX1 := Lib.hid (HX.out.kept hk1' (fun j hj hm => hG (by rw [show j = m from hm] at hj; exact hj)))
  have HK1 := Lib.hid hk1'
  have hml := hD1.lt
  have HD1 := Lib.hid hD1
  have HS := Lib.hid (fun u hu => (HXX.out.2 u hu).one : ∀ u ∈ x, u.oneCell' = true)
  clear hD1 hk1' c0 HO
  have hxl := HXX.out.1
  go_wp2_with (at_builtin; refine wpList_append_pg rfl _ _ 30 rfl tBytes (.slice (some ⟨w1.heap.size, 0, none⟩) 0 0) _ [] x (From w1.heap.size) G rfl rfl (Own.empty_new w1 _) (HX1.out.alloc _) HS.out (by have := HXX.out.1; simp; omega) ?_; intro b2 cap2 w2 ho2 hk2 _)
  have hkw : Kept Nob w1 w2 := by
    refine ((Kept.alloc Nob w1 _).from (n := w1.heap.size) (Nat.le_refl _) (hk2.mono ?_))
    intro j _ hj
    simp [Value.ownBlock, From] at *
    omega
  have HO2 := Lib.hid (show Own w2 5 (.slice b2 64 cap2) x (From w1.heap.size) from by
    have := ho2.mono (G := From w1.heap.size) (fun j _ hj => by simp [Value.ownBlock, From] at *; omega)
    simpa [hxl] using this)
  have HK2 := Lib.hid hkw
  have HD2 := Lib.hid (HD1.out.kept hkw (fun f => f) (fun _ _ f => f))
  clear hkw ho2 hk2 hxl HX HX1 HS
  have HP0 := doc_place w2 m d1 R HD2.out k
  obtain ⟨i, hi, hik⟩ := idx_at (k : Int) d1.order 0 hmem1.out
  rw [hi] at HP0
  have HP := Lib.hid HP0
  have HIK := Lib.hid hik
  have hil : i < d1.order.length := (List.getElem?_eq_some_iff.1 hik).1
  obtain ⟨gv, av, nv, gs, ns, left, hb, hR, h1, h2, h3, h4, h5, h6, h7, h8, hw, hu⟩ := HD2.out
  obtain ⟨na, nc, rfl, -⟩ := h3.shape
  have hnl : ns.length = d1.order.length := h5.1
  have hin : i < ns.length := by omega
  have hol := hw.orderLen
  have ka := Kept.alloc Nob w2 (.cells #[] 30)
  have hm2 : m < w2.heap.size := Nat.lt_of_lt_of_le hml HK2.out.size
  have hb2 := (ka.block m hm2 (fun f => f)).trans hb
  have c2 := cell_at hb2 2 _ rfl
  have f2 := frozen_at hb2 2
  have HE := Lib.hid (Own.empty_new w2 30)
  have H3 := Lib.hid (h3.kept ka (fun _ _ f => f))
  have HN1 : Hid (∀ u ∈ ns, u.oneCell' = true) := by
    intro u hu
    obtain ⟨j, hj, rfl⟩ := List.getElem_of_mem hu
    have hx : d1.order[j]? = some (d1.order[j]'(by omega)) := by simp
    obtain ⟨a, c, hv, -⟩ := (h5.2 j _ _ (List.getElem?_eq_getElem hj) hx).shape
    rw [hv]; rfl
  have HB := Lib.hid hb2
  have HH1 := Lib.hid h1
  have HH2 := Lib.hid h2
  have HH4 := Lib.hid h4
  have HH5 := Lib.hid h5
  have HW := Lib.hid hw
  have HR := Lib.hid hR
  have HU := Lib.hid hu
  have HL := Lib.hid h6
  have hnl2 : ns.length ≤ 8192 := by omega
  clear hb hb2 h1 h2 h3 h4 h5 hw hu hR h6 ka hi hik HP0 hnl
  go_wp2_with fail
  refine HP.out.mono ?_
  rintro e w2' ⟨rfl, rfl⟩
  have hpos : 0 < ns.length := by omega
  go_wp2_with (at_builtin; refine wpList_append_pg rfl _ _ 59 rfl tRows (.slice (some ⟨w2.heap.size, 0, none⟩) 0 0) _ [] ns _ R rfl rfl HE.out H3.out HN1.out (by simp; omega) ?_; intro b3 cap3 w3 ho3 hk3 _; obtain ⟨g3, rfl, hg3⟩ := own_fresh ho3 (n := w2.heap.size) (by simp [Value.ownBlock]; omega) trivial (by simpa using hpos); have hb3 := (hk3.block m (by simp; omega) (by simp [Value.ownBlock]; omega)).trans HB.out; have c2 := cell_at hb3 2 _ rfl; have f2 := frozen_at hb3 2; have ho3' : Own w3 30 (.slice (some ⟨g3, 0, none⟩) ns.length cap3) ns (Just g3) := own_just ho3 (by simp) (by simp); have cg := ho3'.cell i _ (List.getElem?_eq_getElem hin); have fg := ho3'.frozen i; have hmg : m ≠ g3 := (by omega); have HB3 := Lib.hid hb3; have HO3 := Lib.hid ho3'; have HK3 := Lib.hid hk3; clear hb3 ho3 hk3 ho3')
  go_ret
  have k5 : Kept (Just m) w2 (w3.setCell ⟨m, 2, none⟩ (.slice (some ⟨g3, 0, none⟩) ns.length cap3)) :=
    ((Kept.alloc Nob w2 (.cells #[] 30)).trans (G := fun k => (Value.slice (some ⟨w2.heap.size, 0, none⟩) 0 0).ownBlock = some k) HK3.out (fun j hj h => by simp [Value.ownBlock] at h; omega)).nob.trans' (kept1 w3 m 2 _)
  have k6 : Kept (Just g3) (w3.setCell ⟨m, 2, none⟩ (.slice (some ⟨g3, 0, none⟩) ns.length cap3)) ((w3.setCell ⟨m, 2, none⟩ (.slice (some ⟨g3, 0, none⟩) ns.length cap3)).setCell ⟨g3, i, none⟩ (.slice b2 64 cap2)) := kept1 _ g3 i _
  have k7 : Kept (Just m) w2 ((w3.setCell ⟨m, 2, none⟩ (.slice (some ⟨g3, 0, none⟩) ns.length cap3)).setCell ⟨g3, i, none⟩ (.slice b2 64 cap2)) := k5.trans k6 (fun j hj h => by rw [show j = g3 from h] at hj; omega)
  have hdR : Disj R (Just m) := fun j hj h => HR.out (by rw [show j = m from h] at hj; exact hj)
  have hs12 := HK2.out.size
  have hs01 := HK1.out.size
  have hg3l := HO3.out.blockLt (g := g3) rfl
  have hgo : Own ((w3.setCell ⟨m, 2, none⟩ (.slice (some ⟨g3, 0, none⟩) ns.length cap3)).setCell ⟨g3, i, none⟩ (.slice b2 64 cap2)) 30 (.slice (some ⟨g3, 0, none⟩) ns.length cap3) (ns.set i (.slice b2 64 cap2)) (Just g3) :=
    (HO3.out.kept (kept1 w3 m 2 _) (fun j hj h => by rw [show j = g3 from hj] at h; exact hmg (show g3 = m from h).symm)).set i _
  have hxr : Reads ((w3.setCell ⟨m, 2, none⟩ (.slice (some ⟨g3, 0, none⟩) ns.length cap3)).setCell ⟨g3, i, none⟩ (.slice b2 64 cap2)) (.slice b2 64 cap2) x (fun j => w1.heap.size ≤ j ∧ j < w2.heap.size) :=
    (HO2.out.reads.mono fun j hj h => ⟨h, hj⟩).kept k7 (fun j hj h => by rw [show j = m from h] at hj; omega)
  refine ⟨rfl, ⟨Por R (fun j => w1.heap.size ≤ j ∧ j < ((w3.setCell ⟨m, 2, none⟩ (.slice (some ⟨g3, 0, none⟩) ns.length cap3)).setCell ⟨g3, i, none⟩ (.slice b2 64 cap2)).heap.size),
    ⟨gv, av, .slice (some ⟨g3, 0, none⟩) ns.length cap3, gs, ns.set i (.slice b2 64 cap2), left, ?_, ?_, (HH1.out.kept k7 hdR).mono (fun _ _ h => .inl h), ?_, ?_, (HH4.out.kept k7 hdR).mono (fun _ _ h => .inl h), ?_, HL.out, h7, h8, HWF.out, ?_⟩, ?_⟩, ?_⟩
  · refine (k6.block m (by simp [World.setCell]; exact cell_lt c2) (fun h => hmg h)).trans ((heap_set w3 m 2 _ _ _ HB3.out).trans ?_)
    simp [Dsk.put]
  · intro h
    rcases h with h | h
    · exact HR.out h
    · omega
  · have e : (d1.put k x).order = d1.order := by simp [Dsk.put, hmem1.out]
    rw [e]; exact (HH2.out.kept k7 hdR).mono (fun _ _ h => .inl h)
  · exact hgo.reads.mono fun j hj h => .inr ⟨by rw [show j = g3 from h]; omega, hj⟩
  · have e : (d1.put k x).order = d1.order := by simp [Dsk.put, hmem1.out]
    rw [e]
    exact ((HH5.out.kept k7 hdR).mono (fun _ _ h => .inl h)).turn HW.out.once (fun q hq => by rw [HW.out.len]; exact HW.out.order q hq) HIK.out (hxr.mono fun j hj h => .inr ⟨h.1, hj⟩)
  · intro j hj
    rcases hj with hj | hj
    · have := HU.out j hj; have := k7.size; omega
    · exact hj.2
  · intro j hj
    rcases hj with hj | hj
    · exact .inl hj
    · exact .inr (by omega)
  · exact HK1.out.trans' ((HK2.out.nob).trans' k7)
end Go.Proofs.YthjjckpgjfjokaaDoor
