/- The pool's laws: the document's NewPool; open, fresh, awake. -/
import Derived.Test.YthppgchmamonnaaGreatDoorPq08
import Derived.Test.YthppgchmamonnaaGreatDoorPq12
import Derived.Test.YthppgchmamonnaaGreatDoorPq13
namespace Go.Proofs.YthppgchmamonnaaGreatDoor
open Go.RowKit
def docPoolNew (m pages room : Nat) : Array Value := #[.pointer (some ⟨m, 0, none⟩), .int .i64 pages, .int .i64 room, .slice none 0 0, .int .i64 0, .int .i64 0, .int .i64 0, .int .i64 0, .int .i64 0]
theorem doc_pool_new (w : World) (m : Nat) (d : Dsk) (R : Nat → Prop) (h : DocAt w m d R) (pages room : Nat) (h1 : 1 ≤ pages) (h2 : pages ≤ d.good.length / 8) (h3 : 1 ≤ room) (h4 : room ≤ 100) :
    Calls Tryz.prog 85 #[.pointer (some ⟨m, 0, none⟩), .int .i64 pages, .int .i64 room] w fun e w' =>
      e = .returned (.tuple #[.pointer (some ⟨w.heap.size, 0, none⟩), .int .i64 0]) ∧ w'.heap[w.heap.size]? = some (.cells (docPoolNew m pages room) 117 (0, 0)) ∧ Kept Nob w w' := by
  obtain ⟨gv, av, nv, gs, ns, left, hb, -, hg, -, -, hgr, -, -, -, -, hw, -⟩ := h
  obtain ⟨ga, gc, rfl, -⟩ := hg.shape
  have hgl : gs.length = d.good.length := hgr.1
  rw [hgl] at hb
  have c0 := cell_at hb 0 _ rfl
  have hm := hw.most
  have t1 : decide ((d.good.length : Int) / 8 < (pages : Int)) = false := by simp; omega
  clear hb hg hgr hw
  generalize d.good.length = gl at *
  unfold docPoolNew
  go_enter Tryz.func85, Tryz.ntmps85
  go_wp2
  go_ret2
  exact ⟨rfl, heap_alloc_new w _, Kept.alloc _ _ _⟩
def poolWorld (bd b m q : Nat) (x y z : Value) : Array Value := #[.pointer (some ⟨bd, 0, none⟩), .pointer (some ⟨b, 0, none⟩), .pointer (some ⟨m, 0, none⟩), .pointer (some ⟨q, 0, none⟩), x, y, z]
structure Opened (w0 w : World) (wb bd b mb m q : Nat) (d : Dsk) (F R : Nat → Prop) (pages room : Nat) : Prop where
  clean : CleanAt w0 w bd b mb d F (Pl.none pages room) (fun _ => False)
  doc : DocAt w m d R
  Rnew : ∀ x, R x → w0.heap.size ≤ x
  mnew : w0.heap.size ≤ m
  wnew : w0.heap.size ≤ wb
  world : w.heap[wb]? = some (.cells (poolWorld bd b m q (.slice none 0 0) (.slice none 0 0) (.slice none 0 0)) 63 (0, 0))
  pool : w.heap[q]? = some (.cells (docPoolNew m pages room) 117 (0, 0))
  qnew : w0.heap.size ≤ q
set_option maxRecDepth 100000 in
set_option maxHeartbeats 2000000 in
theorem open12 (w0 w : World) (wb bd m : Nat) (d : Dsk) (F R : Nat → Prop) (hD : DiskAt w bd d F) (hM : DocAt w m d R) (pages room : Nat) (h1 : 1 ≤ pages) (h2 : pages ≤ d.good.length / 8) (h3 : 1 ≤ room) (h4 : room ≤ 100)
    (hz : ∀ i, i < d.good.length → d.now.getD i [] = Dsk.zeroSector) (hk : Kept Nob w0 w) (hF : ∀ x, F x → w0.heap.size ≤ x) (hR : ∀ x, R x → w0.heap.size ≤ x) (hm : w0.heap.size ≤ m) (hwb : w0.heap.size ≤ wb)
    (hFw : ¬ F wb) (hRw : ¬ R wb) (hmw : m ≠ wb) (p0 q0 x0 y0 z0 : Value)
    (hw : w.heap[wb]? = some (.cells #[.pointer (some ⟨bd, 0, none⟩), p0, .pointer (some ⟨m, 0, none⟩), q0, x0, y0, z0] 63 (0, 0))) :
    Calls Tryz.prog 48 #[.pointer (some ⟨wb, 0, none⟩), .int .i64 pages, .int .i64 room] w fun e w' => ∃ b mb q, e = .returned (.bool true) ∧ Opened w0 w' wb bd b mb m q d F R pages room := by
  have hwl : wb < w.heap.size := (Array.getElem?_eq_some_iff.1 hw).1
  have c0 : w.cell? ⟨wb, 0, none⟩ = some (.pointer (some ⟨bd, 0, none⟩)) := cell_at hw 0 _ rfl
  have HN := Lib.hid (pool_new w bd d F hD pages room h1 h2 h3 h4)
  have HD := Lib.hid hD
  have HM := Lib.hid hM
  have HW := Lib.hid hw
  have HZ := Lib.hid hz
  have HK := Lib.hid hk
  have HF := Lib.hid hF
  have HR := Lib.hid hR
  have HFw := Lib.hid hFw
  have HRw := Lib.hid hRw
  have HQ := Lib.hid (fun w1 (k : Kept Nob w w1) => doc_pool_new w1 m d R (hM.kept k (fun f => f) (fun _ _ f => f)) pages room h1 h2 h3 h4)
  clear hD hM hw hz hk hF hR hFw hRw
  go_enter Tryz.func48, Tryz.ntmps48
  go_wp2_with fail
  refine HN.out.mono ?_
  rintro e w1 ⟨rfl, hp1, hk1⟩
  have d2 : w1.cell? ⟨wb, 2, none⟩ = some (.pointer (some ⟨m, 0, none⟩)) := (hk1.cell hwl (fun f => f)).trans (cell_at HW.out 2 _ rfl)
  have HP1 := Lib.hid hp1
  have HK1 := Lib.hid hk1
  clear hp1 hk1
  go_wp2_with fail
  refine (HQ.out w1 HK1.out).mono ?_
  rintro e w2 ⟨rfl, hq2, hk2⟩
  have hs1 := HK1.out.size
  have hwl1 : wb < w1.heap.size := Nat.lt_of_lt_of_le hwl hs1
  have hb2 := (hk2.block wb hwl1 (fun f => f)).trans ((HK1.out.block wb hwl (fun f => f)).trans HW.out)
  have f1 := frozen_at hb2 1
  have f3 := frozen_at hb2 3
  have f4 := frozen_at hb2 4
  have f5 := frozen_at hb2 5
  have f6 := frozen_at hb2 6
  have g1 := cell_at hb2 1 _ rfl
  have g3 := cell_at hb2 3 _ rfl
  have g4 := cell_at hb2 4 _ rfl
  have g5 := cell_at hb2 5 _ rfl
  have g6 := cell_at hb2 6 _ rfl
  have HB2 := Lib.hid hb2
  have HQ2 := Lib.hid hq2
  have HK2 := Lib.hid hk2
  clear hb2 hq2 hk2 c0 d2
  go_wp2_with (go_at_call 13; refine (is_none _ _ _).mono ?_; rintro e w' ⟨rfl, rfl⟩)
  go_ret
  generalize hw3 : ((((w2.setCell ⟨wb, 1, none⟩ _).setCell ⟨wb, 3, none⟩ _).setCell ⟨wb, 4, none⟩ _).setCell ⟨wb, 5, none⟩ _).setCell ⟨wb, 6, none⟩ _ = w3
  have k3 : Kept (Just wb) w2 w3 := by
    rw [← hw3]
    exact (kept3 w2 wb 1 3 4 _ _ _).trans' (kept2 _ wb 5 6 _ _)
  have hb3 : w3.heap[wb]? = some (.cells (poolWorld bd (w.heap.size + 1) m w1.heap.size (.slice none 0 0) (.slice none 0 0) (.slice none 0 0)) 63 (0, 0)) := by
    rw [← hw3]
    exact heap2 _ wb 5 6 _ _ _ _ (heap3 w2 wb 1 3 4 _ _ _ _ _ HB2.out)
  clear hw3
  have hp2 := HP1.out.nob HK2.out
  have hlt2 := HK2.out.size
  have k02 := (HK.out.then HK1.out).then HK2.out
  have hq2l := (Array.getElem?_eq_some_iff.1 HQ2.out).1
  have kk : Kept (Just wb) w w3 := (HK1.out.nob.trans' HK2.out.nob).trans' k3
  have hFF : Disj F (Just wb) := fun x hx e => HFw.out (by rw [show x = wb from e] at hx; exact hx)
  have hs0 := HK.out.size
  refine ⟨_, w.heap.size, w1.heap.size, rfl, ⟨⟨hp2.kept k3 ?_ ?_ (fun _ f => f.elim), (HD.out.kept kk hFF), HZ.out, by show 8 * pages ≤ _; omega, fun p hp => (by cases hp), fun p hp => (by cases hp), fun p hp => (by cases hp), by show 0 ≤ room; omega, h4, ?_, ?_, fun _ _ f => f, ?_, ?_⟩, ?_, HR.out, hm, hwb, hb3, ?_, by omega⟩⟩
  · intro e; have e : w.heap.size + 1 = wb := e; omega
  · intro e; have e : w.heap.size = wb := e; omega
  · intro e; have := HD.out.under _ e; omega
  · intro e; have := HD.out.under _ e; omega
  · rintro x (e | e | e | e)
    · exact HF.out x e
    · omega
    · omega
    · exact e.elim
  · exact k02.trans k3 (fun x hx e => by have e : x = wb := e; omega)
  · exact HM.out.kept kk hmw (fun x hx e => HRw.out (by rw [show x = wb from e] at hx; exact hx))
  · exact (k3.block _ hq2l (fun e => by have e : w1.heap.size = wb := e; omega)).trans HQ2.out
set_option maxRecDepth 100000 in
set_option maxHeartbeats 2000000 in
theorem fresh12 (w : World) (n pages room : Nat) (h1 : 1 ≤ pages) (h2 : pages ≤ n / 8) (h3 : 1 ≤ room) (h4 : room ≤ 100) (hn : n ≤ 8192) :
    Calls Tryz.prog 27 #[.int .i64 n, .int .i64 pages, .int .i64 room] w fun e w' => ∃ wb bd b mb m q F R, e = .returned (.tuple #[.pointer (some ⟨wb, 0, none⟩), .bool true]) ∧ Opened w w' wb bd b mb m q (Dsk.fresh n) F R pages room := by
  go_enter Tryz.func27, Tryz.ntmps27
  go_wp2_with fail
  refine (disk_new w n (by omega) hn).mono ?_
  rintro e w1 ⟨bd, rfl, hD1, hk1⟩
  have HD1 := Lib.hid hD1
  have HK1 := Lib.hid hk1
  clear hD1 hk1
  go_wp2_with fail
  refine (doc_new w1 n (by omega) hn).mono ?_
  rintro e w2 ⟨m, R, rfl, hM2, hR2, hm2, hk2⟩
  have hs1 := HK1.out.size
  have HD2 := Lib.hid (HD1.out.kept hk2 (fun _ _ f => f))
  have HK2 := Lib.hid (HK1.out.then hk2)
  have HS2 := Lib.hid hk2.size
  have HM2 := Lib.hid hM2
  have HR2 := Lib.hid hR2
  clear hM2 hR2 hk2
  have ka := Kept.alloc Nob w2 (.cells #[.pointer (some ⟨bd, 0, none⟩), .pointer none, .pointer (some ⟨m, 0, none⟩), .pointer none, .slice none 0 0, .slice none 0 0, .slice none 0 0] 63)
  have hOp := open12 w _ w2.heap.size bd m (Dsk.fresh n) _ R (HD2.out.kept ka (fun _ _ f => f)) (HM2.out.kept ka (fun f => f) (fun _ _ f => f)) pages room h1 (by simpa [Dsk.fresh] using h2) h3 h4 (fun i hi => by simp [Dsk.fresh] at hi ⊢; simp [hi]) (HK2.out.then ka) (fun x hx => hx.1) (fun x hx => Nat.le_trans hs1 (HR2.out x hx)) (Nat.le_trans hs1 hm2) HK2.out.size (fun f => by have := HD2.out.under _ f; omega) (fun f => by have := HM2.out.under _ f; omega) (by have := HM2.out.lt; omega) _ _ _ _ _ (heap_alloc_new w2 _)
  have HOp := Lib.hid hOp
  clear hOp ka
  go_wp2_with fail
  refine HOp.out.mono ?_
  rintro e w3 ⟨b, mb, q, rfl, ho⟩
  have HO := Lib.hid ho
  clear ho HOp
  go_wp2_with fail
  go_ret2
  exact ⟨_, bd, b, mb, m, q, _, R, rfl, HO.out⟩
set_option maxRecDepth 100000 in
set_option maxHeartbeats 2000000 in
theorem awake12 (w : World) (hT : Typed w) : Calls Tryz.prog 9 #[] w (RetTrue w) := by
  have HT := Lib.hid hT
  clear hT
  go_enter Tryz.func9, Tryz.ntmps9
  go_wp2_with fail
  refine (fresh12 w 64 4 1 (by omega) (by omega) (by omega) (by omega) (by omega)).mono ?_
  rintro e w1 ⟨wb, bd, b, mb, m, q, F, R, rfl, ho⟩
  have hwb := ho.world
  have c1 : w1.cell? ⟨wb, 1, none⟩ = some (.pointer (some ⟨b, 0, none⟩)) := cell_at hwb 1 _ rfl
  have hwl : wb < w1.heap.size := (Array.getElem?_eq_some_iff.1 hwb).1
  have HC := Lib.hid ho.clean
  have HP1 := Lib.hid (ho.clean.fresh_pin 0 rfl (by show 0 < 4; omega) (by show 0 ≤ _; omega) (by show 0 ≤ _; omega) (.inl (by show 0 < 1; omega)))
  have HW := Lib.hid (show wb ≠ b ∧ wb ≠ mb from by
    refine ⟨fun e => ?_, fun e => ?_⟩
    · have h1 := ho.clean.pool.head
      rw [← e, hwb] at h1
      have h2 := congrArg (fun o => o.map fun | .cells _ t _ => t | _ => 0) h1
      cases h2
    · obtain ⟨⟨es, clock, hb', -⟩, -⟩ := ho.clean.pool.map
      rw [← e, hwb] at hb'
      cases hb')
  clear hwb ho
  go_wp2_with fail
  refine HP1.out.mono ?_
  rintro e w2 ⟨g, pg, S1, rfl, hpg, hph, hC2, hk2, -⟩
  have c2 : w2.cell? ⟨wb, 1, none⟩ = some (.pointer (some ⟨b, 0, none⟩)) := (hk2.cell hwl (fun e => e.elim HW.out.1 HW.out.2)).trans c1
  have hfu := hC2.full 1 rfl (by show 1 < 4; omega) (by show 1 ≤ _; omega) (by show 1 ≤ 1; omega) rfl
  have HFu := Lib.hid (show Calls Tryz.prog 12 #[.pointer (some ⟨b, 0, none⟩), .int .i64 1] w2 (RetNoPage w2 1 8 Nob) from hfu)
  have HPh := Lib.hid hph
  have HC2 := Lib.hid hC2
  clear hfu hph hC2 hk2 HP1 c1 hwl
  go_wp2_with fail
  refine HFu.out.mono ?_
  rintro e w3 ⟨f, rfl, hf, hk3⟩
  have HId := Lib.hid (page_id w3 pg 0 0 _ ((hk3.block pg (Array.getElem?_eq_some_iff.1 HPh.out).1 (fun f => f)).trans HPh.out))
  have hki : Kept Nob w w3 := HC2.out.kept.then hk3
  have hIs := is_this w3 _ opPool 1 8 _ hf (by omega) (by omega) (HT.out.kept hki (fun f => f))
  unfold opPool at hIs
  have HIs := Lib.hid hIs
  have HKI := Lib.hid hki
  clear hf hk3 hki hIs c2 HFu
  go_wp2_with (first
    | (go_at_call 30; refine HId.out.mono ?_; rintro e w' ⟨rfl, rfl⟩)
    | (go_at_call 13; refine HIs.out.mono ?_; rintro e w4 ⟨rfl, hk4⟩))
  go_ret
  exact ⟨rfl, HKI.out.then hk4⟩
end Go.Proofs.YthppgchmamonnaaGreatDoor
