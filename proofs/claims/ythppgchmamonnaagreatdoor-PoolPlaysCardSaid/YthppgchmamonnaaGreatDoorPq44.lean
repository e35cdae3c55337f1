/- The law of both pools: does, kind Unpin, Flush. -/
import Derived.Test.YthppgchmamonnaaGreatDoorPq41
import Derived.Test.YthppgchmamonnaaGreatDoorPq42
namespace Go.Proofs.YthppgchmamonnaaGreatDoor
open Go.RowKit
set_option maxRecDepth 100000 in
set_option maxHeartbeats 8000000 in
theorem does_unpin (w0 w : World) (wb bd b mb md m pages room sect n : Nat) (t : List (Nat × Nat)) (Z Z' : Nat → Prop) (x y z : Value) (D : Duo w0 w bd b mb md m pages room sect n t Z Z') (hZb : ∀ x, (Z x ∨ Z' x) → x ≠ wb)
    (hw : w.heap[wb]? = some (.cells (wCells bd (.pointer (some ⟨b, 0, none⟩)) md (.pointer (some ⟨m, 0, none⟩)) x y z) 63 (0, 0))) (pg i : Int) (yes : Bool) (hT : Typed w0) (hn : n ≤ 1000) (pgl : -9223372036854775808 ≤ pg) (pgh : pg ≤ 9223372036854775807) :
    Calls Tryz.prog 28 #[.pointer (some ⟨wb, 0, none⟩), stepV 2 pg i yes, .int .i64 pages, .int .i64 room] w (RetDoes w0 w bd b mb md m pages room sect n t Z Z') := by
  obtain ⟨d, P, Q, con, dcon, f, φ, K, K', D, rfl, rfl, rfl, ht⟩ := D
  have hwl : wb < w.heap.size := (Array.getElem?_eq_some_iff.1 hw).1
  obtain ⟨wA, hwA⟩ : ∃ wA, w.alloc (.cells #[.int .i64 2, .int .i64 pg, .int .i64 i, .bool yes] 66) = wA := ⟨_, rfl⟩
  have hkA : Kept Nob w wA := hwA ▸ Kept.alloc Nob w _
  obtain ⟨g, hg⟩ : ∃ g, w.heap.size = g := ⟨_, rfl⟩
  have hbA : wA.heap[g]? = some (.cells #[.int .i64 2, .int .i64 pg, .int .i64 i, .bool yes] 66 (0, 0)) := by rw [← hwA, ← hg]; exact heap_alloc_new w _
  have hgl : g < wA.heap.size := (Array.getElem?_eq_some_iff.1 hbA).1
  have HC : ∀ W, Kept (fun x => Z x ∨ Z' x) wA W → Hid (W.cell? ⟨wb, 0, none⟩ = some (.pointer (some ⟨bd, 0, none⟩)) ∧ W.cell? ⟨wb, 1, none⟩ = some (.pointer (some ⟨b, 0, none⟩)) ∧ W.cell? ⟨wb, 2, none⟩ = some (.pointer (some ⟨md, 0, none⟩)) ∧ W.cell? ⟨wb, 3, none⟩ = some (.pointer (some ⟨m, 0, none⟩)) ∧
      W.cell? ⟨g, 0, none⟩ = some (.int .i64 2) ∧ W.cell? ⟨g, 1, none⟩ = some (.int .i64 pg) ∧ W.cell? ⟨g, 2, none⟩ = some (.int .i64 i) ∧ W.cell? ⟨g, 3, none⟩ = some (.bool yes)) := fun W k => Lib.hid (by
    have hb := (k.block wb (Nat.lt_of_lt_of_le hwl hkA.size) (fun e => hZb wb e rfl)).trans ((hkA.block wb hwl (fun f => f)).trans hw)
    have hb2 := (k.block g hgl (fun e => by have h := e.elim (D.under g) (D.under' g); omega)).trans hbA
    exact ⟨cell_at hb 0 _ rfl, cell_at hb 1 _ rfl, cell_at hb 2 _ rfl, cell_at hb 3 _ rfl, cell_at hb2 0 _ rfl, cell_at hb2 1 _ rfl, cell_at hb2 2 _ rfl, cell_at hb2 3 _ rfl⟩)
  have HD := fun W (k : Kept Nob w W) => Lib.hid (D.nob k)
  have HKA := Lib.hid hkA
  have HT := Lib.hid ht
  have HG := Lib.hid hgl
  have HTy := Lib.hid hT
  have HN := Lib.hid hn
  have HP := Lib.hid (And.intro pgl pgh)
  clear hbA hkA hgl hw D ht hT hn pgl pgh
  unfold stepV
  obtain ⟨a0, a1, a2, a3, b0, b1, b2, b3⟩ := (HC wA (Kept.refl _ _)).out
  go_enter Tryz.func28, Tryz.ntmps28
  go_wp2_with fail
  clear a0 a1 a2 a3 b0 b1 b2 b3 hwA hg
  refine wp_region_held_drew (S := (fun W => Kept (fun x => Z x ∨ Z' x) wA W)) (by kernel_rfl) ?_ (fun hHeld => ?_)
  · exact Kept.drew _ _
  refine take_in (v := ?_) 0 (some 105) ?_ ?_
  case refine_2 => intro w hSw; go_simp; try with_reducible rfl
  try simp only [putS]
  refine take_in (v := ?_) 1 (some 106) ?_ ?_
  case refine_2 => intro w hSw; go_simp; try with_reducible rfl
  try simp only [putS]
  refine take_in (v := ?_) 2 (some 107) ?_ ?_
  case refine_2 => intro w hSw; go_simp; try with_reducible rfl
  try simp only [putS]
  refine take_in (v := ?_) 3 (some 108) ?_ ?_
  case refine_2 => intro w hSw; (try dsimp only at hSw); obtain ⟨a0, a1, a2, a3, b0, b1, b2, b3⟩ := (HC w hSw).out; go_simp; try with_reducible rfl
  try simp only [putS]
  refine take_in (v := ?_) 4 (some 109) ?_ ?_
  case refine_2 => intro w hSw; go_simp; try with_reducible rfl
  try simp only [putS]
  refine take_in (v := ?_) 5 (some 110) ?_ ?_
  case refine_2 => intro w hSw; (try dsimp only at hSw); obtain ⟨a0, a1, a2, a3, b0, b1, b2, b3⟩ := (HC w hSw).out; go_simp; try with_reducible rfl
  try simp only [putS]
  refine take_in (v := ?_) 6 (some 111) ?_ ?_
  case refine_2 => intro w hSw; go_simp; try with_reducible rfl
  try simp only [putS]
  refine take_in (v := ?_) 7 (some 112) ?_ ?_
  case refine_2 => intro w hSw; (try dsimp only at hSw); obtain ⟨a0, a1, a2, a3, b0, b1, b2, b3⟩ := (HC w hSw).out; go_simp; try with_reducible rfl
  try simp only [putS]
  refine take_in (v := ?_) 8 (some 113) ?_ ?_
  case refine_2 => intro w hSw; go_simp; try with_reducible rfl
  try simp only [putS]
  refine take_in (v := ?_) 9 (some 114) ?_ ?_
  case refine_2 => intro w hSw; (try dsimp only at hSw); obtain ⟨a0, a1, a2, a3, b0, b1, b2, b3⟩ := (HC w hSw).out; go_simp; try with_reducible rfl
  try simp only [putS]
  refine take_in (v := ?_) 11 (some 116) ?_ ?_
  case refine_2 => intro w hSw; go_simp; try with_reducible rfl
  try simp only [putS]
  refine take_in (v := ?_) 12 (some 117) ?_ ?_
  case refine_2 => intro w hSw; go_simp; try with_reducible rfl
  try simp only [putS]
  refine take_in (v := ?_) 13 (some 118) ?_ ?_
  case refine_2 => intro w hSw; go_simp; try with_reducible rfl
  try simp only [putS]
  refine take_in (v := ?_) 14 (some 119) ?_ ?_
  case refine_2 => intro w hSw; (try dsimp only at hSw); obtain ⟨a0, a1, a2, a3, b0, b1, b2, b3⟩ := (HC w hSw).out; go_simp; try with_reducible rfl
  try simp only [putS]
  refine take_in (v := ?_) 15 (some 120) ?_ ?_
  case refine_2 => intro w hSw; go_simp; try with_reducible rfl
  try simp only [putS]
  refine take_in (v := ?_) 16 (some 121) ?_ ?_
  case refine_2 => intro w hSw; (try dsimp only at hSw); obtain ⟨a0, a1, a2, a3, b0, b1, b2, b3⟩ := (HC w hSw).out; go_simp; try with_reducible rfl
  try simp only [putS]
  refine take_in (v := ?_) 17 (some 122) ?_ ?_
  case refine_2 => intro w hSw; go_simp; try with_reducible rfl
  try simp only [putS]
  refine take_in (v := ?_) 18 (some 123) ?_ ?_
  case refine_2 => intro w hSw; (try dsimp only at hSw); obtain ⟨a0, a1, a2, a3, b0, b1, b2, b3⟩ := (HC w hSw).out; go_simp; try with_reducible rfl
  try simp only [putS]
  refine take_in (v := ?_) 19 (some 124) ?_ ?_
  case refine_2 => intro w hSw; go_simp; try with_reducible rfl
  try simp only [putS]
  refine take_in (v := ?_) 20 (some 125) ?_ ?_
  case refine_2 => intro w hSw; (try dsimp only at hSw); obtain ⟨a0, a1, a2, a3, b0, b1, b2, b3⟩ := (HC w hSw).out; go_simp; try with_reducible rfl
  try simp only [putS]
  refine take_in (v := ?_) 22 (some 127) ?_ ?_
  case refine_2 => intro w hSw; go_simp; try with_reducible rfl
  try simp only [putS]
  refine take_in (v := ?_) 23 (some 128) ?_ ?_
  case refine_2 => intro w hSw; (try dsimp only at hSw); obtain ⟨a0, a1, a2, a3, b0, b1, b2, b3⟩ := (HC w hSw).out; go_simp; try with_reducible rfl
  try simp only [putS]
  refine wpAnyH_ready (rs := [10]) (by kernel_rfl) (by simp) ?_
  refine AllReadyH.cons (o := _) rfl (fun K hK => ?_) AllReadyH.nil
  go_simp
  refine ((HD _ (HKA.out.then (Kept.drew Nob wA))).out.unpin HN.out HT.out pg HP.out.1 HP.out.2 i yes).mono ?_
  rintro e w1 ⟨v, rfl, hk1, hdoc⟩
  have HDoc := Lib.hid hdoc
  clear hdoc
  try go_wp2_with fail
  refine hK.out _ _ ((Kept.drew _ wA).trans' (hk1.mono fun x _ q => .inl q)) (fun hHeld => ?_)
  clear hK K
  try simp only [putS]
  refine wpAnyH_ready (rs := [21]) (by kernel_rfl) (by simp) ?_
  refine AllReadyH.cons (o := _) rfl (fun K hK => ?_) AllReadyH.nil
  go_simp
  refine (HDoc.out _ (Kept.refl _ w1)).mono ?_
  rintro e w2 ⟨c, rfl, hm, hto⟩
  have hk2 := hto.keeps
  have HTo := Lib.hid hto
  have HI := Lib.hid (is_maybe w2 v opPool pg c _ hm (hto.typed HTy.out))
  unfold opPool at HI
  clear hto hm
  try go_wp2_with fail
  refine hK.out _ _ ((Kept.drew _ wA).trans' hk2) (fun hHeld => ?_)
  clear hK K
  try simp only [putS]
  refine wpAnyH_ready (rs := [24]) (by kernel_rfl) (by simp) ?_
  refine AllReadyH.cons (o := _) rfl (fun K hK => ?_) AllReadyH.nil
  go_simp
  refine HI.out.mono ?_
  rintro e w3 ⟨rfl, hk3⟩
  have HK3 := Lib.hid hk3
  clear HI
  try go_wp2_with fail
  refine hK.out _ _ (hHeld.then hk3) (fun hHeld => ?_)
  clear hK K
  try simp only [putS]
  refine take_in (v := ?_) 25 (some 8) ?_ ?_
  case refine_2 => intro w hSw; go_simp; try with_reducible rfl
  try simp only [putS]
  refine wpAnyH_done (by kernel_rfl) ?_ _
  go_wp2_with fail
  go_ret
  exact ⟨rfl, (HTo.out.base (HKA.out.then (Kept.drew Nob wA))).nob HK3.out⟩
set_option maxRecDepth 100000 in
set_option maxHeartbeats 8000000 in
theorem does_flush (w0 w : World) (wb bd b mb md m pages room sect n : Nat) (t : List (Nat × Nat)) (Z Z' : Nat → Prop) (x y z : Value) (D : Duo w0 w bd b mb md m pages room sect n t Z Z') (hZb : ∀ x, (Z x ∨ Z' x) → x ≠ wb)
    (hw : w.heap[wb]? = some (.cells (wCells bd (.pointer (some ⟨b, 0, none⟩)) md (.pointer (some ⟨m, 0, none⟩)) x y z) 63 (0, 0))) (pg i : Int) (yes : Bool) (hT : Typed w0) (hn : n ≤ 1000) :
    Calls Tryz.prog 28 #[.pointer (some ⟨wb, 0, none⟩), stepV 4 pg i yes, .int .i64 pages, .int .i64 room] w (RetDoes w0 w bd b mb md m pages room sect n t Z Z') := by
  obtain ⟨d, P, Q, con, dcon, f, φ, K, K', D, rfl, rfl, rfl, ht⟩ := D
  have hwl : wb < w.heap.size := (Array.getElem?_eq_some_iff.1 hw).1
  obtain ⟨wA, hwA⟩ : ∃ wA, w.alloc (.cells #[.int .i64 4, .int .i64 pg, .int .i64 i, .bool yes] 66) = wA := ⟨_, rfl⟩
  have hkA : Kept Nob w wA := hwA ▸ Kept.alloc Nob w _
  obtain ⟨g, hg⟩ : ∃ g, w.heap.size = g := ⟨_, rfl⟩
  have hbA : wA.heap[g]? = some (.cells #[.int .i64 4, .int .i64 pg, .int .i64 i, .bool yes] 66 (0, 0)) := by rw [← hwA, ← hg]; exact heap_alloc_new w _
  have hgl : g < wA.heap.size := (Array.getElem?_eq_some_iff.1 hbA).1
  have HC : ∀ W, Kept (fun x => Z x ∨ Z' x) wA W → Hid (W.cell? ⟨wb, 0, none⟩ = some (.pointer (some ⟨bd, 0, none⟩)) ∧ W.cell? ⟨wb, 1, none⟩ = some (.pointer (some ⟨b, 0, none⟩)) ∧ W.cell? ⟨wb, 2, none⟩ = some (.pointer (some ⟨md, 0, none⟩)) ∧ W.cell? ⟨wb, 3, none⟩ = some (.pointer (some ⟨m, 0, none⟩)) ∧
      W.cell? ⟨g, 0, none⟩ = some (.int .i64 4) ∧ W.cell? ⟨g, 1, none⟩ = some (.int .i64 pg) ∧ W.cell? ⟨g, 2, none⟩ = some (.int .i64 i) ∧ W.cell? ⟨g, 3, none⟩ = some (.bool yes)) := fun W k => Lib.hid (by
    have hb := (k.block wb (Nat.lt_of_lt_of_le hwl hkA.size) (fun e => hZb wb e rfl)).trans ((hkA.block wb hwl (fun f => f)).trans hw)
    have hb2 := (k.block g hgl (fun e => by have h := e.elim (D.under g) (D.under' g); omega)).trans hbA
    exact ⟨cell_at hb 0 _ rfl, cell_at hb 1 _ rfl, cell_at hb 2 _ rfl, cell_at hb 3 _ rfl, cell_at hb2 0 _ rfl, cell_at hb2 1 _ rfl, cell_at hb2 2 _ rfl, cell_at hb2 3 _ rfl⟩)
  have HD := fun W (k : Kept Nob w W) => Lib.hid (D.nob k)
  have HKA := Lib.hid hkA
  have HT := Lib.hid ht
  have HG := Lib.hid hgl
  have HTy := Lib.hid hT
  have HN := Lib.hid hn
  clear hbA hkA hgl hw D ht hT hn
  unfold stepV
  obtain ⟨a0, a1, a2, a3, b0, b1, b2, b3⟩ := (HC wA (Kept.refl _ _)).out
  go_enter Tryz.func28, Tryz.ntmps28
  go_wp2_with fail
  clear a0 a1 a2 a3 b0 b1 b2 b3 hwA hg
  refine wp_region_held_drew (S := (fun W => Kept (fun x => Z x ∨ Z' x) wA W)) (by kernel_rfl) ?_ (fun hHeld => ?_)
  · exact Kept.drew _ _
  refine take_in (v := ?_) 0 (some 148) ?_ ?_
  case refine_2 => intro w hSw; go_simp; try with_reducible rfl
  try simp only [putS]
  refine take_in (v := ?_) 1 (some 149) ?_ ?_
  case refine_2 => intro w hSw; go_simp; try with_reducible rfl
  try simp only [putS]
  refine take_in (v := ?_) 2 (some 150) ?_ ?_
  case refine_2 => intro w hSw; go_simp; try with_reducible rfl
  try simp only [putS]
  refine take_in (v := ?_) 3 (some 151) ?_ ?_
  case refine_2 => intro w hSw; (try dsimp only at hSw); obtain ⟨a0, a1, a2, a3, b0, b1, b2, b3⟩ := (HC w hSw).out; go_simp; try with_reducible rfl
  try simp only [putS]
  refine take_in (v := ?_) 5 (some 153) ?_ ?_
  case refine_2 => intro w hSw; go_simp; try with_reducible rfl
  try simp only [putS]
  refine take_in (v := ?_) 6 (some 154) ?_ ?_
  case refine_2 => intro w hSw; go_simp; try with_reducible rfl
  try simp only [putS]
  refine take_in (v := ?_) 7 (some 155) ?_ ?_
  case refine_2 => intro w hSw; go_simp; try with_reducible rfl
  try simp only [putS]
  refine take_in (v := ?_) 8 (some 156) ?_ ?_
  case refine_2 => intro w hSw; (try dsimp only at hSw); obtain ⟨a0, a1, a2, a3, b0, b1, b2, b3⟩ := (HC w hSw).out; go_simp; try with_reducible rfl
  try simp only [putS]
  refine wpAnyH_ready (rs := [4]) (by kernel_rfl) (by simp) ?_
  refine AllReadyH.cons (o := _) rfl (fun K hK => ?_) AllReadyH.nil
  go_simp
  refine ((HD _ (HKA.out.then (Kept.drew Nob wA))).out.flush HN.out HT.out).mono ?_
  rintro e w1 ⟨v, rfl, hk1, hdoc⟩
  have HDoc := Lib.hid hdoc
  clear hdoc
  try go_wp2_with fail
  refine hK.out _ _ ((Kept.drew _ wA).trans' (hk1.mono fun x _ q => .inl q)) (fun hHeld => ?_)
  clear hK K
  try simp only [putS]
  refine wpAnyH_ready (rs := [9]) (by kernel_rfl) (by simp) ?_
  refine AllReadyH.cons (o := _) rfl (fun K hK => ?_) AllReadyH.nil
  go_simp
  refine (HDoc.out _ (Kept.refl _ w1)).mono ?_
  rintro e w2 ⟨c, rfl, hm, hto⟩
  have hk2 := hto.keeps
  have HTo := Lib.hid hto
  have HI := Lib.hid (is_maybe w2 v opPool 0 c _ hm (hto.typed HTy.out))
  unfold opPool at HI
  clear hto hm
  try go_wp2_with fail
  refine hK.out _ _ ((Kept.drew _ wA).trans' hk2) (fun hHeld => ?_)
  clear hK K
  try simp only [putS]
  refine wpAnyH_ready (rs := [10]) (by kernel_rfl) (by simp) ?_
  refine AllReadyH.cons (o := _) rfl (fun K hK => ?_) AllReadyH.nil
  go_simp
  refine HI.out.mono ?_
  rintro e w3 ⟨rfl, hk3⟩
  have HK3 := Lib.hid hk3
  clear HI
  try go_wp2_with fail
  refine hK.out _ _ (hHeld.then hk3) (fun hHeld => ?_)
  clear hK K
  try simp only [putS]
  refine take_in (v := ?_) 11 (some 8) ?_ ?_
  case refine_2 => intro w hSw; go_simp; try with_reducible rfl
  try simp only [putS]
  refine wpAnyH_done (by kernel_rfl) ?_ _
  go_wp2_with fail
  go_ret
  exact ⟨rfl, (HTo.out.base (HKA.out.then (Kept.drew Nob wA))).nob HK3.out⟩
set_option maxRecDepth 100000 in
set_option maxHeartbeats 4000000 in
theorem does_none (w0 w : World) (wb bd b mb md m pages room sect n : Nat) (t : List (Nat × Nat)) (Z Z' : Nat → Prop) (D : Duo w0 w bd b mb md m pages room sect n t Z Z') (kd pg i : Int) (yes : Bool) (hkd : kd < 1 ∨ 7 < kd) :
    Calls Tryz.prog 28 #[.pointer (some ⟨wb, 0, none⟩), stepV kd pg i yes, .int .i64 pages, .int .i64 room] w (RetDoes w0 w bd b mb md m pages room sect n t Z Z') := by
  have k1 : (kd == (1 : Int)) = false := beq_eq_false_iff_ne.2 (by omega)
  have k2 : (kd == (2 : Int)) = false := beq_eq_false_iff_ne.2 (by omega)
  have k3 : (kd == (3 : Int)) = false := beq_eq_false_iff_ne.2 (by omega)
  have k4 : (kd == (4 : Int)) = false := beq_eq_false_iff_ne.2 (by omega)
  have k5 : (kd == (5 : Int)) = false := beq_eq_false_iff_ne.2 (by omega)
  have k6 : (kd == (6 : Int)) = false := beq_eq_false_iff_ne.2 (by omega)
  have k7 : (kd == (7 : Int)) = false := beq_eq_false_iff_ne.2 (by omega)
  have HD := Lib.hid D
  clear hkd D
  unfold stepV
  go_enter Tryz.func28, Tryz.ntmps28
  go_wp2_with fail
  go_ret
  exact ⟨rfl, HD.out.later.nob (Kept.alloc Nob w _)⟩
end Go.Proofs.YthppgchmamonnaaGreatDoor
