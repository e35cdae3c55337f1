/- The law of both pools: does, kind Pin. -/
import Derived.Test.YthppgchmamonnaaGreatDoorPq04
import Derived.Test.YthppgchmamonnaaGreatDoorPq46
import Derived.Test.YthppgchmamonnaaGreatDoorPq47
namespace Go.Proofs.YthppgchmamonnaaGreatDoor
open Go.RowKit
set_option maxRecDepth 100000 in
set_option maxHeartbeats 8000000 in
theorem does_pin (w0 w : World) (wb bd b mb md m pages room sect n : Nat) (t : List (Nat × Nat)) (Z Z' : Nat → Prop) (x y z : Value) (D : Duo w0 w bd b mb md m pages room sect n t Z Z') (hZb : ∀ x, (Z x ∨ Z' x) → x ≠ wb)
    (hw : w.heap[wb]? = some (.cells (wCells bd (.pointer (some ⟨b, 0, none⟩)) md (.pointer (some ⟨m, 0, none⟩)) x y z) 63 (0, 0))) (pg i : Int) (yes : Bool) (hT : Typed w0) (hn : n ≤ 1000) (ns : List Int) (X : Nat → Prop) (hrows : ToldAt w x y z t ns X) (hZX : ∀ k, (Z k ∨ Z' k) → k ≠ wb ∧ ¬ X k) (hXw : ¬ X wb) (hXo : ∀ k, X k → w0.heap.size ≤ k ∧ k < w.heap.size) (hwb : w0.heap.size ≤ wb) (htn : t.length ≤ n) :
    Calls Tryz.prog 28 #[.pointer (some ⟨wb, 0, none⟩), stepV 1 pg i yes, .int .i64 pages, .int .i64 room] w (RetLw w0 w wb pages room sect (n + 1)) := by
  have HRet := Lib.hid fun (e : Ending) (w' : World) (h : RetDoes w0 w bd b mb md m pages room sect n t Z Z' e w') => h.lw hw D hrows hZX hXw hXo hwb htn
  have HOld := Lib.hid D.old.2
  obtain ⟨d, P, Q, con, dcon, f, φ, K, K', D, rfl, rfl, rfl, ht⟩ := D
  have hwl : wb < w.heap.size := (Array.getElem?_eq_some_iff.1 hw).1
  obtain ⟨wA, hwA⟩ : ∃ wA, w.alloc (.cells #[.int .i64 1, .int .i64 pg, .int .i64 i, .bool yes] 66) = wA := ⟨_, rfl⟩
  have hkA : Kept Nob w wA := hwA ▸ Kept.alloc Nob w _
  obtain ⟨g, hg⟩ : ∃ g, w.heap.size = g := ⟨_, rfl⟩
  have hbA : wA.heap[g]? = some (.cells #[.int .i64 1, .int .i64 pg, .int .i64 i, .bool yes] 66 (0, 0)) := by rw [← hwA, ← hg]; exact heap_alloc_new w _
  have hgl : g < wA.heap.size := (Array.getElem?_eq_some_iff.1 hbA).1
  have HC : ∀ W, Kept (fun x => Z x ∨ Z' x) wA W → Hid (W.cell? ⟨wb, 0, none⟩ = some (.pointer (some ⟨bd, 0, none⟩)) ∧ W.cell? ⟨wb, 1, none⟩ = some (.pointer (some ⟨b, 0, none⟩)) ∧ W.cell? ⟨wb, 2, none⟩ = some (.pointer (some ⟨md, 0, none⟩)) ∧ W.cell? ⟨wb, 3, none⟩ = some (.pointer (some ⟨m, 0, none⟩)) ∧
      W.cell? ⟨g, 0, none⟩ = some (.int .i64 1) ∧ W.cell? ⟨g, 1, none⟩ = some (.int .i64 pg) ∧ W.cell? ⟨g, 2, none⟩ = some (.int .i64 i) ∧ W.cell? ⟨g, 3, none⟩ = some (.bool yes)) := fun W k => Lib.hid (by
    have hb := (k.block wb (Nat.lt_of_lt_of_le hwl hkA.size) (fun e => hZb wb e rfl)).trans ((hkA.block wb hwl (fun f => f)).trans hw)
    have hb2 := (k.block g hgl (fun e => by have h := e.elim (D.under g) (D.under' g); omega)).trans hbA
    exact ⟨cell_at hb 0 _ rfl, cell_at hb 1 _ rfl, cell_at hb 2 _ rfl, cell_at hb 3 _ rfl, cell_at hb2 0 _ rfl, cell_at hb2 1 _ rfl, cell_at hb2 2 _ rfl, cell_at hb2 3 _ rfl⟩)
  have HBg : ∀ W, Kept (fun x => Z x ∨ Z' x) wA W → Hid (W.heap[g]? = some (.cells #[.int .i64 1, .int .i64 pg, .int .i64 i, .bool yes] 66 (0, 0))) := fun W k => Lib.hid ((k.block g hgl (fun e => by have h := e.elim (D.under g) (D.under' g); omega)).trans hbA)
  have HGw : Hid (g ≠ wb) := Lib.hid (by omega)
  have HGx : Hid (¬ X g) := Lib.hid (fun h => by have := (hXo g h).2; omega)
  have HD := fun W (k : Kept Nob w W) => Lib.hid (D.nob k)
  have HKA := Lib.hid hkA
  have HT := Lib.hid ht
  have HG := Lib.hid hgl
  have HTy := Lib.hid hT
  have HN := Lib.hid hn
  have HW := Lib.hid hw
  have HRo := Lib.hid hrows
  have HZX := Lib.hid hZX
  have HXw := Lib.hid hXw
  have HXo := Lib.hid hXo
  have HWb := Lib.hid hwb
  have HTn := Lib.hid htn
  have HWl := Lib.hid hwl
  clear hbA hkA hgl hw D ht hT hn hrows hZX hXw hXo hwb htn hwl hZb
  unfold stepV
  obtain ⟨a0, a1, a2, a3, b0, b1, b2, b3⟩ := (HC wA (Kept.refl _ _)).out
  go_enter Tryz.func28, Tryz.ntmps28
  go_wp2_with fail
  clear a0 a1 a2 a3 b0 b1 b2 b3 hwA hg
  refine wp_region_held_drew (S := (fun W => Kept (fun x => Z x ∨ Z' x) wA W)) (by kernel_rfl) ?_ (fun hHeld => ?_)
  · exact Kept.drew _ _
  refine take_in (v := ?_) 0 (some 24) ?_ ?_
  case refine_2 => intro w hSw; go_simp; try with_reducible rfl
  try simp only [putS]
  refine take_in (v := ?_) 1 (some 25) ?_ ?_
  case refine_2 => intro w hSw; go_simp; try with_reducible rfl
  try simp only [putS]
  refine take_in (v := ?_) 2 (some 26) ?_ ?_
  case refine_2 => intro w hSw; go_simp; try with_reducible rfl
  try simp only [putS]
  refine take_in (v := ?_) 3 (some 27) ?_ ?_
  case refine_2 => intro w hSw; (try dsimp only at hSw); obtain ⟨a0, a1, a2, a3, b0, b1, b2, b3⟩ := (HC w hSw).out; go_simp; try with_reducible rfl
  try simp only [putS]
  refine take_in (v := ?_) 4 (some 28) ?_ ?_
  case refine_2 => intro w hSw; go_simp; try with_reducible rfl
  try simp only [putS]
  refine take_in (v := ?_) 5 (some 29) ?_ ?_
  case refine_2 => intro w hSw; (try dsimp only at hSw); obtain ⟨a0, a1, a2, a3, b0, b1, b2, b3⟩ := (HC w hSw).out; go_simp; try with_reducible rfl
  try simp only [putS]
  refine wpAnyH_ready (rs := [6]) (by kernel_rfl) (by simp) ?_
  refine AllReadyH.cons (o := _) rfl (fun K hK => ?_) AllReadyH.nil
  go_simp
  refine ((HD _ (HKA.out.then (Kept.drew Nob wA))).out.pin HN.out HT.out pg).mono ?_
  rintro e w1 ⟨pv, v, rfl, hk1, hdoc⟩
  have HDoc := Lib.hid hdoc
  clear hdoc
  try go_wp2_with fail
  refine hK.out _ _ ((Kept.drew _ wA).trans' (hk1.mono fun x _ q => .inl q)) (fun hHeld => ?_)
  clear hK K
  try simp only [putS]
  refine take_in (v := ?_) 7 (some 23) ?_ ?_
  case refine_2 => intro w hSw; go_simp; try with_reducible rfl
  try simp only [putS]
  refine take_in (v := ?_) 8 (some 31) ?_ ?_
  case refine_2 => intro w hSw; go_simp; try with_reducible rfl
  try simp only [putS]
  refine take_in (v := ?_) 9 (some 32) ?_ ?_
  case refine_2 => intro w hSw; go_simp; try with_reducible rfl
  try simp only [putS]
  refine take_in (v := ?_) 10 (some 9) ?_ ?_
  case refine_2 => intro w hSw; go_simp; try with_reducible rfl
  try simp only [putS]
  refine take_in (v := ?_) 11 (some 10) ?_ ?_
  case refine_2 => intro w hSw; go_simp; try with_reducible rfl
  try simp only [putS]
  refine wpAnyH_done (by kernel_rfl) ?_ _
  have HK1 := Lib.hid hHeld
  go_upto_region 4 with fail
  refine wp_region_held_drew (S := (fun W => Kept (fun x => Z x ∨ Z' x) wA W)) (by kernel_rfl) ?_ (fun hHeld => ?_)
  · exact HK1.out.trans' (Kept.drew _ _)
  refine take_in (v := ?_) 0 (some 34) ?_ ?_
  case refine_2 => intro w hSw; go_simp; try with_reducible rfl
  try simp only [putS]
  refine take_in (v := ?_) 1 (some 35) ?_ ?_
  case refine_2 => intro w hSw; go_simp; try with_reducible rfl
  try simp only [putS]
  refine take_in (v := ?_) 2 (some 36) ?_ ?_
  case refine_2 => intro w hSw; go_simp; try with_reducible rfl
  try simp only [putS]
  refine take_in (v := ?_) 3 (some 37) ?_ ?_
  case refine_2 => intro w hSw; (try dsimp only at hSw); obtain ⟨a0, a1, a2, a3, b0, b1, b2, b3⟩ := (HC w hSw).out; go_simp; try with_reducible rfl
  try simp only [putS]
  refine take_in (v := ?_) 4 (some 38) ?_ ?_
  case refine_2 => intro w hSw; go_simp; try with_reducible rfl
  try simp only [putS]
  refine take_in (v := ?_) 5 (some 39) ?_ ?_
  case refine_2 => intro w hSw; (try dsimp only at hSw); obtain ⟨a0, a1, a2, a3, b0, b1, b2, b3⟩ := (HC w hSw).out; go_simp; try with_reducible rfl
  try simp only [putS]
  refine wpAnyH_ready (rs := [6]) (by kernel_rfl) (by simp) ?_
  refine AllReadyH.cons (o := _) rfl (fun K hK => ?_) AllReadyH.nil
  go_simp
  refine (HDoc.out _ (Kept.drew Nob w1)).mono ?_
  rintro e w2 ⟨qv, c, rfl, hm, hor⟩
  have HM := Lib.hid hm
  have HOr := Lib.hid hor
  clear hm
  have hk2 : Kept (fun x => Z x ∨ Z' x) wA.drew w2 := hor.elim (fun h => h.2.2.keeps) (fun ⟨_, _, _, _, h⟩ => h.keeps)
  clear hor HDoc
  try go_wp2_with fail
  refine hK.out _ _ ((Kept.drew _ wA).trans' hk2) (fun hHeld => ?_)
  clear hK K
  try simp only [putS]
  refine take_in (v := ?_) 7 (some 33) ?_ ?_
  case refine_2 => intro w hSw; go_simp; try with_reducible rfl
  try simp only [putS]
  refine take_in (v := ?_) 8 (some 41) ?_ ?_
  case refine_2 => intro w hSw; go_simp; try with_reducible rfl
  try simp only [putS]
  refine take_in (v := ?_) 9 (some 42) ?_ ?_
  case refine_2 => intro w hSw; go_simp; try with_reducible rfl
  try simp only [putS]
  refine take_in (v := ?_) 10 (some 11) ?_ ?_
  case refine_2 => intro w hSw; go_simp; try with_reducible rfl
  try simp only [putS]
  refine take_in (v := ?_) 11 (some 12) ?_ ?_
  case refine_2 => intro w hSw; go_simp; try with_reducible rfl
  try simp only [putS]
  refine wpAnyH_done (by kernel_rfl) ?_ _
  have hw2 : Typed w2 := HOr.out.elim (fun h => h.2.2.typed HTy.out) (fun ⟨_, _, _, _, h⟩ => h.typed HTy.out)
  have HI := Lib.hid (is_maybe w2 v opPool pg c _ HM.out hw2)
  unfold opPool at HI
  have b1 : w2.cell? ⟨g, 1, none⟩ = some (.int .i64 pg) := (HC w2 hHeld).out.2.2.2.2.2.1
  have HK2 := Lib.hid hHeld
  clear hHeld hw2 HM HK1 hk1 hk2
  rcases HOr.out with ⟨rfl, rfl, hto⟩ | ⟨pg1, dg1, rfl, rfl, hto⟩
  · have HTo := Lib.hid hto
    clear hto HOr
    go_wp2_with (go_at_call 13; (with_reducible refine HI.out.mono ?_); rintro e w3 ⟨rfl, hk3⟩; have HK3 := Lib.hid hk3; clear hk3)
    go_ret
    exact HRet.out _ _ ⟨rfl, (HTo.out.nob HK3.out).base (HKA.out.then (Kept.drew Nob wA))⟩
  · have HTo := Lib.hid hto
    clear hto HOr HRet
    go_upto_region 8 with (go_at_call 13; (with_reducible refine HI.out.mono ?_); rintro e w3 ⟨rfl, hk3⟩; have HK3 := Lib.hid hk3; clear hk3)
    clear b1 HI
    obtain ⟨Z1, Z1', D3, g1, g2, hk3⟩ := (HTo.out.nob HK3.out).base (HKA.out.then (Kept.drew Nob wA))
    have hs3 := hk3.size
    have hb3 := (hk3.block wb HWl.out (fun f => (HZX.out wb f).1 rfl)).trans HW.out
    obtain ⟨X1, X2, X3, o1, o2, o3, d1, d2, d3, hs, hl⟩ := HRo.out.kept hk3 (fun k hx f => (HZX.out k f).2 hx)
    have HB3 := Lib.hid hb3
    have HG3 : Hid (w3.heap[g]? = some (.cells #[.int .i64 1, .int .i64 pg, .int .i64 i, .bool yes] 66 (0, 0))) := Lib.hid (HBg w3 ((HK2.out).then HK3.out)).out
    have HZ1 : Hid (∀ k, (Z1 k ∨ Z1' k) → k ≠ wb ∧ ¬ X k) := Lib.hid fun k hk => by
      have : (Z k ∨ Z' k) ∨ w.heap.size ≤ k := by
        rcases hk with h | h
        · exact (g1 k h).imp .inl id
        · exact (g2 k h).imp .inr id
      rcases this with h | h
      · exact HZX.out k h
      · exact ⟨by have := HWl.out; omega, fun hx => by have := (HXo.out k hx).2; omega⟩
    have HX3 : Hid (∀ k, X k → w0.heap.size ≤ k ∧ k < w3.heap.size) := Lib.hid fun k hx => ⟨(HXo.out k hx).1, by have := (HXo.out k hx).2; omega⟩
    have HK03 : Hid (Kept (From w0.heap.size) w w3) := Lib.hid (hk3.mono fun k _ hk => HOld.out k hk)
    have HD3 := Lib.hid D3
    have HDj := Lib.hid (And.intro d1 (And.intro d2 (And.intro d3 (And.intro hs hl))))
    have HO1 := Lib.hid o1
    have HO2 := Lib.hid o2
    have HO3 := Lib.hid o3
    have hgw : g ≠ wb := HGw.out
    have hgX : ¬ X g := HGx.out
    have n1 : ¬ X1 wb := fun h => HXw.out (hs wb (.inl h))
    have n2 : ¬ X2 wb := fun h => HXw.out (hs wb (.inr (.inl h)))
    have n3 : ¬ X3 wb := fun h => HXw.out (hs wb (.inr (.inr h)))
    have m1 : ¬ X1 g := fun h => hgX (hs g (.inl h))
    have m3 : ¬ X3 g := fun h => hgX (hs g (.inr (.inr h)))
    have m2 : ¬ X2 g := fun h => hgX (hs g (.inr (.inl h)))
    have l1 : ((t.map fun p => Value.pointer (some ⟨p.1, 0, none⟩)).length + 1) * (8 + 1) ≤ 140737488355328 := by rw [List.length_map]; have := HTn.out; have := HN.out; omega
    have l2 : ((t.map fun p => Value.pointer (some ⟨p.2, 0, none⟩)).length + 1) * (8 + 1) ≤ 140737488355328 := by rw [List.length_map]; have := HTn.out; have := HN.out; omega
    have l3 : ((ns.map (Value.int .i64)).length + 1) * (8 + 1) ≤ 140737488355328 := by rw [List.length_map, hl]; have := HTn.out; have := HN.out; omega
    obtain ⟨xs1, hx1⟩ : ∃ l, (t.map fun p => Value.pointer (some ⟨p.1, 0, none⟩)) = l := ⟨_, rfl⟩
    obtain ⟨xs2, hx2⟩ : ∃ l, (t.map fun p => Value.pointer (some ⟨p.2, 0, none⟩)) = l := ⟨_, rfl⟩
    obtain ⟨xs3, hx3⟩ : ∃ l, (ns.map (Value.int .i64)) = l := ⟨_, rfl⟩
    rw [hx1] at HO1 l1
    rw [hx2] at HO2 l2
    rw [hx3] at HO3 l3
    have HXs := Lib.hid (And.intro hx1 (And.intro hx2 hx3))
    clear hx1 hx2 hx3 o1 o2 o3 d1 d2 d3 hs hl D3 hb3 g1 g2 hk3 hs3 HK2 HK3 HTo
    have c4 := cell_at HB3.out 4 _ rfl
    go_upto_region 9 with (at_builtin; refine wpList_append1_pg rfl _ _ 60 rfl tPagesP x xs1 (.pointer (some ⟨pg1, 0, none⟩)) X1 ⟨w3.heap.size, 0, none⟩ 1 rfl rfl (HO1.out.alloc _) (by simp) rfl (Nat.le_refl _) rfl l1 ?_; intro ga ca w4 ho hk; have q4 := HO1.out.pushed n1 HB3.out ho hk 4 (.slice (some ⟨ga, 0, none⟩) (xs1.length + 1) ca); have c44 := cell_at q4.2.2 4 _ rfl; have f44 := frozen_at q4.2.2 4; have HQ4 := Lib.hid q4; clear q4 ho hk c4)
    clear c44 f44
    have HB5 : Hid ((w4.setCell ⟨wb, 4, none⟩ (.slice (some ⟨ga, 0, none⟩) (xs1.length + 1) ca)).heap[wb]? = some (.cells (wCells bd (.pointer (some ⟨b, 0, none⟩)) md (.pointer (some ⟨m, 0, none⟩)) (.slice (some ⟨ga, 0, none⟩) (xs1.length + 1) ca) y z) 63 (0, 0))) := Lib.hid ((heap_set w4 wb 4 _ _ _ HQ4.out.2.2).trans rfl)
    have HA1 := Lib.hid HQ4.out.1
    have HK5 := Lib.hid HQ4.out.2.1
    clear HQ4
    generalize w4.setCell ⟨wb, 4, none⟩ (.slice (some ⟨ga, 0, none⟩) (xs1.length + 1) ca) = w5 at *
    have HO2' := Lib.hid (HO2.out.kept HK5.out fun k hx e => e.elim (fun e => HDj.out.1 k e hx) (fun e => n2 (e ▸ hx)))
    have HO3' := Lib.hid (HO3.out.kept HK5.out fun k hx e => e.elim (fun e => HDj.out.2.1 k e hx) (fun e => n3 (e ▸ hx)))
    have HG5 := Lib.hid ((HK5.out.block g (Array.getElem?_eq_some_iff.1 HG3.out).1 (fun e => e.elim m1 hgw)).trans HG3.out)
    have c5 := cell_at HB5.out 5 _ rfl
    go_upto_region 10 with (at_builtin; refine wpList_append1_pg rfl _ _ 61 rfl tPagesD y xs2 (.pointer (some ⟨dg1, 0, none⟩)) X2 ⟨w5.heap.size, 0, none⟩ 1 rfl rfl (HO2'.out.alloc _) (by simp) rfl (Nat.le_refl _) rfl l2 ?_; intro gb cb w6 ho hk; have q6 := HO2'.out.pushed n2 HB5.out ho hk 5 (.slice (some ⟨gb, 0, none⟩) (xs2.length + 1) cb); have c65 := cell_at q6.2.2 5 _ rfl; have f65 := frozen_at q6.2.2 5; have HQ6 := Lib.hid q6; clear q6 ho hk c5)
    clear c65 f65
    have HB7 : Hid ((w6.setCell ⟨wb, 5, none⟩ (.slice (some ⟨gb, 0, none⟩) (xs2.length + 1) cb)).heap[wb]? = some (.cells (wCells bd (.pointer (some ⟨b, 0, none⟩)) md (.pointer (some ⟨m, 0, none⟩)) (.slice (some ⟨ga, 0, none⟩) (xs1.length + 1) ca) (.slice (some ⟨gb, 0, none⟩) (xs2.length + 1) cb) z) 63 (0, 0))) := Lib.hid ((heap_set w6 wb 5 _ _ _ HQ6.out.2.2).trans rfl)
    have HA2 := Lib.hid HQ6.out.1
    have HK7 := Lib.hid HQ6.out.2.1
    clear HQ6
    generalize w6.setCell ⟨wb, 5, none⟩ (.slice (some ⟨gb, 0, none⟩) (xs2.length + 1) cb) = w7 at *
    have HO3 := Lib.hid (HO3'.out.kept HK7.out fun k hx e => e.elim (fun e => HDj.out.2.2.1 k e hx) (fun e => n3 (e ▸ hx)))
    have HG7 := Lib.hid ((HK7.out.block g (Array.getElem?_eq_some_iff.1 HG5.out).1 (fun e => e.elim m2 hgw)).trans HG5.out)
    have hg7 : ∀ W, Kept Nob w7 W → Hid (W.cell? ⟨g, 1, none⟩ = some (.int .i64 pg)) := fun W k => Lib.hid (cell_at ((k.block g (Array.getElem?_eq_some_iff.1 HG7.out).1 (fun f => f)).trans HG7.out) 1 _ rfl)
    refine wp_region_held_drew (S := (fun W => W.cell? ⟨g, 1, none⟩ = some (.int .i64 pg))) (by kernel_rfl) ?_ (fun hHeld => ?_)
    · exact (hg7 _ (Kept.drew Nob w7)).out
    refine take_in (v := ?_) 0 (some 78) ?_ ?_
    case refine_2 => intro w hSw; go_simp; try with_reducible rfl
    try simp only [putS]
    refine take_in (v := ?_) 1 (some 79) ?_ ?_
    case refine_2 => intro w hSw; go_simp; try with_reducible rfl
    try simp only [putS]
    refine take_in (v := ?_) 2 (some 80) ?_ ?_
    case refine_2 => intro w hSw; go_simp; try with_reducible rfl
    try simp only [putS]
    refine take_in (v := ?_) 3 (some 81) ?_ ?_
    case refine_2 => intro w hSw; go_simp; try with_reducible rfl
    try simp only [putS]
    refine take_in (v := ?_) 5 (some 83) ?_ ?_
    case refine_2 => intro w hSw; go_simp; try with_reducible rfl
    try simp only [putS]
    refine take_in (v := ?_) 6 (some 84) ?_ ?_
    case refine_2 => intro w hSw; go_simp; try with_reducible rfl
    try simp only [putS]
    generalize hvS : w7.drew = vS at *
    have HKv : Hid (Kept Nob w7 vS) := Lib.hid (hvS ▸ Kept.drew Nob w7)
    clear hvS
    refine wpAnyH_ready (rs := [4, 7]) (by kernel_rfl) (by simp) ?_
    have hz : ∀ W, Kept Nob w7 W → Hid (W.cell? ⟨wb, 6, none⟩ = some z) := fun W k => Lib.hid (cell_at ((k.block wb (Array.getElem?_eq_some_iff.1 HB7.out).1 (fun f => f)).trans HB7.out) 6 _ rfl)
    have HKa : Hid (Kept Nob vS (vS.alloc (.cells #[.int .i64 pg] 3))) := Lib.hid (Kept.alloc Nob vS _)
    apply joinP
    case h2 =>
      intro st
      refine AllReadyH.cons (o := _) rfl (fun K hK => ?_) (AllReadyH.cons (o := _) rfl (fun K hK => ?_) AllReadyH.nil)
      · have c0 := (hz vS HKv.out).out
        go_simp
        refine hK.out _ _ hHeld (fun hHeld => ?_)
        clear hK K c0
        try simp only [putS]
        refine wpAnyH_ready (rs := [7]) (by kernel_rfl) (by simp) ?_
        refine AllReadyH.cons (o := _) rfl (fun K hK => ?_) AllReadyH.nil
        go_simp
        refine hK.out _ _ (hg7 _ (HKv.out.then HKa.out)).out (fun hHeld => ?_)
        clear hK K
        try simp only [putS]
        exact st
      · go_simp
        refine hK.out _ _ (hg7 _ (HKv.out.then HKa.out)).out (fun hHeld => ?_)
        clear hK K
        try simp only [putS]
        refine wpAnyH_ready (rs := [4]) (by kernel_rfl) (by simp) ?_
        refine AllReadyH.cons (o := _) rfl (fun K hK => ?_) AllReadyH.nil
        have c0 := (hz _ (HKv.out.then HKa.out)).out
        go_simp
        refine hK.out _ _ hHeld (fun hHeld => ?_)
        clear hK K c0
        try simp only [putS]
        exact st
    case h1 =>
      have HOv := Lib.hid (HO3.out.kept HKv.out (fun _ _ f => f))
      have HBv := Lib.hid ((HKv.out.block wb (Array.getElem?_eq_some_iff.1 HB7.out).1 (fun f => f)).trans HB7.out)
      refine wpAnyH_ready (rs := [8]) (by kernel_rfl) (by simp) ?_
      refine AllReadyH.cons (o := _) rfl (fun K hK => ?_) AllReadyH.nil
      refine step_append1_pg rfl _ _ 36 rfl tInts z xs3 (.int .i64 pg) X3 ⟨vS.heap.size, 0, none⟩ 1 rfl rfl (HOv.out.alloc _) (by simp) rfl (Nat.le_refl _) rfl l3 ?_
      intro gc cc w8 ho hk
      have q8 := HOv.out.pushed n3 HBv.out ho hk 6 (.slice (some ⟨gc, 0, none⟩) (xs3.length + 1) cc)
      have HQ8 := Lib.hid q8
      have hg8 : w8.cell? ⟨g, 1, none⟩ = some (.int .i64 pg) := (hk.cell (p := ⟨g, 1, none⟩) (Nat.lt_of_lt_of_le (cell_lt (hg7 _ HKv.out).out) (Kept.alloc Nob vS _).size) (fun h => m3 (HOv.out.2 g h))).trans (hg7 _ (HKv.out.then HKa.out)).out
      clear q8 ho hk
      refine hK.out _ _ hg8 (fun hHeld => ?_)
      clear hK K
      try simp only [putS]
      refine take_in (v := ?_) 9 (some 87) ?_ ?_
      case refine_2 => intro w hSw; go_simp; try with_reducible rfl
      try simp only [putS]
      refine take_in (v := ?_) 10 (some 88) ?_ ?_
      case refine_2 => intro w hSw; go_simp; try with_reducible rfl
      try simp only [putS]
      refine wpAnyH_ready (rs := [11]) (by kernel_rfl) (by simp) ?_
      refine AllReadyH.cons (o := _) rfl (fun K hK => ?_) AllReadyH.nil
      have c86 := cell_at HQ8.out.2.2 6 _ rfl
      have f86 := frozen_at HQ8.out.2.2 6
      go_simp
      refine hK.out _ _ ((setCell_far hgw).trans hg8) (fun hHeld => ?_)
      clear hK K c86 f86
      try simp only [putS]
      refine wpAnyH_done (by kernel_rfl) ?_ _
      have HB9 : Hid ((w8.setCell ⟨wb, 6, none⟩ (.slice (some ⟨gc, 0, none⟩) (xs3.length + 1) cc)).heap[wb]? = some (.cells (wCells bd (.pointer (some ⟨b, 0, none⟩)) md (.pointer (some ⟨m, 0, none⟩)) (.slice (some ⟨ga, 0, none⟩) (xs1.length + 1) ca) (.slice (some ⟨gb, 0, none⟩) (xs2.length + 1) cb) (.slice (some ⟨gc, 0, none⟩) (xs3.length + 1) cc)) 63 (0, 0))) := Lib.hid ((heap_set w8 wb 6 _ _ _ HQ8.out.2.2).trans rfl)
      have HA3 := Lib.hid HQ8.out.1
      have HK9 := Lib.hid (HQ8.out.2.1)
      clear HQ8 hg8
      generalize w8.setCell ⟨wb, 6, none⟩ (.slice (some ⟨gc, 0, none⟩) (xs3.length + 1) cc) = w9 at *
      obtain ⟨hx1, hx2, hx3⟩ := HXs.out
      obtain ⟨d1, d2, d3, hs, hl⟩ := HDj.out
      subst hx1 hx2 hx3
      obtain ⟨hrows, hk9⟩ := ToldAt.push (pg := pg1) (dg := dg1) (k := pg) hl d1 d2 d3 hs (fun k hk => (HX3.out k hk).2) HXw.out (Array.getElem?_eq_some_iff.1 HB3.out).1 HA1.out HK5.out HA2.out HK7.out (HA3.out.mono fun k _ h => h.imp id fun h => ⟨Nat.le_trans HKv.out.size h.1, h.2⟩) (HKv.out.nob.trans' HK9.out)
      have D9 := HD3.out.away hk9 (fun k hk => hk.elim (fun h => ⟨fun f => (HZ1.out k (.inl f)).2 h, fun f => (HZ1.out k (.inr f)).2 h, (HX3.out k h).1⟩) (fun h => ⟨fun f => (HZ1.out k (.inl f)).1 h, fun f => (HZ1.out k (.inr f)).1 h, by have h : k = wb := h; have := HWb.out; omega⟩))
      have s9 := hk9.size
      have HLw : Hid (Lw w0 w9 wb P.pages P.room d.good.length (n + 1)) := Lib.hid ⟨_, _, _, _, _, _, _, _, _, _, _, _, _, D9, HB9.out, hrows, fun k hk => ⟨(HZ1.out k hk).1, fun h => h.elim (HZ1.out k hk).2 fun h => by have := HD3.out.under k hk; omega⟩, fun h => h.elim HXw.out fun h => by have := (Array.getElem?_eq_some_iff.1 HB3.out).1; omega, fun k hk => hk.elim (fun h => ⟨(HX3.out k h).1, by have := (HX3.out k h).2; omega⟩) (fun h => ⟨by have := HD3.out.under; have := HK03.out.size; have := HWb.out; have := HWl.out; omega, h.2⟩), HWb.out, by simp; exact HTn.out⟩
      have HK09 : Hid (Kept (From w0.heap.size) w w9) := Lib.hid (HK03.out.trans hk9 fun k _ h => h.elim (fun h => (HX3.out k h).1) (fun h => by have h : k = wb := h; show _ ≤ k; have := HWb.out; omega))
      obtain ⟨p, RP, RD, hp1, hp2, hpf, -, -⟩ := D9.page (pg := pg1) (dg := dg1) (by simp)
      have hsz := hpf.sized
      have hid := hpf.good.id
      have hu := hpf.good.used
      have HId := fun W (k : Kept Nob w9 W) => Lib.hid (by
        obtain ⟨lv, hh, -⟩ := hp1.kept k (fun f => f) (fun _ _ f => f)
        exact page_id W pg1 p.kind p.id lv hh)
      have HDi := fun W (k : Kept Nob w9 W) => Lib.hid (by
        obtain ⟨bv, hv, hh, -⟩ := hp2.kept k (fun f => f) (fun _ _ f => f)
        exact (cell_at hh 1 _ rfl : W.cell? ⟨dg1, 1, none⟩ = some (.int .i64 p.id)))
      have HBp := fun W (k : Kept Nob w9 W) => Lib.hid (page_bytes W pg1 p RP (hp1.kept k (fun f => f) (fun _ _ f => f)) hsz hu)
      have HBd := fun W (k : Kept Nob w9 W) => Lib.hid (dpage_bytes W dg1 p RD (hp2.kept k (fun f => f) (fun _ _ f => f)) hsz hu hid)
      have HL := Lib.hid (bytesOf_length p hu)
      clear hrows hk9 D9 s9 hp1 hp2 hpf hsz hid hu d1 d2 d3 hs hl l1 l2 l3 n1 n2 n3 m1 m2 m3 hgw hgX HA1 HA2 HA3 HK5 HK7 HK9 HB3 HB5 HB7 HB9 HO1 HO2 HO3 HO2' HO3' HOv HBv HKv HKa hz hg7 HG3 HG5 HG7 hHeld HD3 HDj
      go_upto_region 11 with fail
      refine wp_region_held_drew (S := (fun W => Kept Nob w9 W)) (by kernel_rfl) ?_ (fun hHeld => ?_)
      · exact Kept.drew _ _
      refine take_in (v := ?_) 0 (some 89) ?_ ?_
      case refine_2 => intro w hSw; go_simp; try with_reducible rfl
      try simp only [putS]
      refine take_in (v := ?_) 2 (some 91) ?_ ?_
      case refine_2 => intro w hSw; go_simp; try with_reducible rfl
      try simp only [putS]
      refine take_in (v := ?_) 3 (some 92) ?_ ?_
      case refine_2 => intro w hSw; go_simp; try with_reducible rfl
      try simp only [putS]
      refine take_in (v := ?_) 4 (some 93) ?_ ?_
      case refine_2 => intro w hSw; go_simp; try with_reducible rfl
      try simp only [putS]
      refine take_in (v := ?_) 5 (some 94) ?_ ?_
      case refine_2 => intro w hSw; (try dsimp only at hSw); have d0 := (HDi _ hSw).out; go_simp; try with_reducible rfl
      try simp only [putS]
      refine wpAnyH_ready (rs := [1]) (by kernel_rfl) (by simp) ?_
      refine AllReadyH.cons (o := _) rfl (fun K hK => ?_) AllReadyH.nil
      go_simp
      refine (HId _ hHeld).out.mono ?_
      rintro e w' ⟨rfl, rfl⟩
      try go_wp2_with fail
      refine hK.out _ _ (hHeld) (fun hHeld => ?_)
      clear hK K
      try simp only [putS]
      refine take_in (v := ?_) 6 (some 95) ?_ ?_
      case refine_2 => intro w hSw; go_simp; try with_reducible rfl
      try simp only [putS]
      refine take_in (v := ?_) 7 (some 96) ?_ ?_
      case refine_2 => intro w hSw; go_simp; try with_reducible rfl
      try simp only [putS]
      refine take_in (v := ?_) 8 (some 97) ?_ ?_
      case refine_2 => intro w hSw; go_simp; try with_reducible rfl
      try simp only [putS]
      refine take_in (v := ?_) 10 (some 99) ?_ ?_
      case refine_2 => intro w hSw; go_simp; try with_reducible rfl
      try simp only [putS]
      refine wpAnyH_ready (rs := [9]) (by kernel_rfl) (by simp) ?_
      refine AllReadyH.cons (o := _) rfl (fun K hK => ?_) AllReadyH.nil
      go_simp
      refine (HBp _ hHeld).out.mono ?_
      rintro e w10 ⟨gp, rfl, hbp, hk10⟩
      have HRp := Lib.hid hbp.reads
      clear hbp
      try go_wp2_with fail
      refine hK.out _ _ (hHeld.then hk10) (fun hHeld => ?_)
      clear hK K
      try simp only [putS]
      refine wpAnyH_ready (rs := [11]) (by kernel_rfl) (by simp) ?_
      refine AllReadyH.cons (o := _) rfl (fun K hK => ?_) AllReadyH.nil
      go_simp
      refine (HBd _ hHeld).out.mono ?_
      rintro e w11 ⟨gd, rfl, hbd, hk11⟩
      have HRd := Lib.hid hbd.reads
      have HRq := Lib.hid (HRp.out.kept hk11 (fun _ _ f => f))
      clear hbd
      try go_wp2_with fail
      refine hK.out _ _ (hHeld.then hk11) (fun hHeld => ?_)
      clear hK K
      try simp only [putS]
      refine wpAnyH_ready (rs := [12]) (by kernel_rfl) (by simp) ?_
      refine AllReadyH.cons (o := _) rfl (fun K hK => ?_) AllReadyH.nil
      go_simp
      refine (bytes_any _ _ _ (bytesOf p) (bytesOf p) _ _ HRq.out HRd.out (by rw [HL.out]; decide) (by rw [HL.out]; decide)).mono ?_
      rintro e w12 ⟨ry, nn, rfl, hry, rfl⟩
      obtain rfl : ry = true := hry.2 rfl
      clear hry
      try go_wp2_with fail
      refine hK.out _ _ (hHeld.then (Kept.drewN Nob _ nn)) (fun hHeld => ?_)
      clear hK K
      try simp only [putS]
      refine take_in (v := ?_) 13 (some 102) ?_ ?_
      case refine_2 => intro w hSw; go_simp; try with_reducible rfl
      try simp only [putS]
      refine take_in (v := ?_) 14 (some 8) ?_ ?_
      case refine_2 => intro w hSw; go_simp; try with_reducible rfl
      try simp only [putS]
      refine wpAnyH_done (by kernel_rfl) ?_ _
      have HKe := Lib.hid hHeld
      go_wp2_with fail
      go_ret
      exact ⟨rfl, HLw.out.nob HKe.out, HK09.out.then HKe.out⟩
end Go.Proofs.YthppgchmamonnaaGreatDoor
