/- The law of both pools: does, kind Log, Cut. -/
import Derived.Test.YthppgchmamonnaaGreatDoorPq41
import Derived.Test.YthppgchmamonnaaGreatDoorPq42
namespace Go.Proofs.YthppgchmamonnaaGreatDoor
open Go.RowKit
set_option maxRecDepth 100000 in
set_option maxHeartbeats 8000000 in
theorem does_log (w0 w : World) (wb bd b mb md m pages room sect n : Nat) (t : List (Nat × Nat)) (Z Z' : Nat → Prop) (x y z : Value) (D : Duo w0 w bd b mb md m pages room sect n t Z Z') (hZb : ∀ x, (Z x ∨ Z' x) → x ≠ wb)
    (hw : w.heap[wb]? = some (.cells (wCells bd (.pointer (some ⟨b, 0, none⟩)) md (.pointer (some ⟨m, 0, none⟩)) x y z) 63 (0, 0))) (pg i : Int) (yes : Bool) :
    Calls Tryz.prog 28 #[.pointer (some ⟨wb, 0, none⟩), stepV 3 pg i yes, .int .i64 pages, .int .i64 room] w (RetDoes w0 w bd b mb md m pages room sect n t Z Z') := by
  obtain ⟨d, P, Q, con, dcon, f, φ, K, K', D, rfl, rfl, rfl, ht⟩ := D
  have hwl : wb < w.heap.size := (Array.getElem?_eq_some_iff.1 hw).1
  obtain ⟨wA, hwA⟩ : ∃ wA, w.alloc (.cells #[.int .i64 3, .int .i64 pg, .int .i64 i, .bool yes] 66) = wA := ⟨_, rfl⟩
  have hkA : Kept Nob w wA := hwA ▸ Kept.alloc Nob w _
  obtain ⟨g, hg⟩ : ∃ g, w.heap.size = g := ⟨_, rfl⟩
  have hbA : wA.heap[g]? = some (.cells #[.int .i64 3, .int .i64 pg, .int .i64 i, .bool yes] 66 (0, 0)) := by rw [← hwA, ← hg]; exact heap_alloc_new w _
  have hgl : g < wA.heap.size := (Array.getElem?_eq_some_iff.1 hbA).1
  have HC : ∀ W, Kept (fun x => Z x ∨ Z' x) wA W → Hid (W.cell? ⟨wb, 0, none⟩ = some (.pointer (some ⟨bd, 0, none⟩)) ∧ W.cell? ⟨wb, 1, none⟩ = some (.pointer (some ⟨b, 0, none⟩)) ∧ W.cell? ⟨wb, 2, none⟩ = some (.pointer (some ⟨md, 0, none⟩)) ∧ W.cell? ⟨wb, 3, none⟩ = some (.pointer (some ⟨m, 0, none⟩)) ∧
      W.cell? ⟨g, 0, none⟩ = some (.int .i64 3) ∧ W.cell? ⟨g, 1, none⟩ = some (.int .i64 pg) ∧ W.cell? ⟨g, 2, none⟩ = some (.int .i64 i) ∧ W.cell? ⟨g, 3, none⟩ = some (.bool yes)) := fun W k => Lib.hid (by
    have hb := (k.block wb (Nat.lt_of_lt_of_le hwl hkA.size) (fun e => hZb wb e rfl)).trans ((hkA.block wb hwl (fun f => f)).trans hw)
    have hb2 := (k.block g hgl (fun e => by have h := e.elim (D.under g) (D.under' g); omega)).trans hbA
    exact ⟨cell_at hb 0 _ rfl, cell_at hb 1 _ rfl, cell_at hb 2 _ rfl, cell_at hb 3 _ rfl, cell_at hb2 0 _ rfl, cell_at hb2 1 _ rfl, cell_at hb2 2 _ rfl, cell_at hb2 3 _ rfl⟩)
  have HD := fun W (k : Kept Nob w W) => Lib.hid (D.nob k)
  have HKA := Lib.hid hkA
  have HT := Lib.hid ht
  have HG := Lib.hid hgl
  clear hbA hkA hgl hw D ht
  unfold stepV
  obtain ⟨a0, a1, a2, a3, b0, b1, b2, b3⟩ := (HC wA (Kept.refl _ _)).out
  go_enter Tryz.func28, Tryz.ntmps28
  go_wp2_with fail
  clear a0 a1 a2 a3 b0 b1 b2 b3 hwA hg
  refine wp_region_held_drew (S := (fun W => Kept (fun x => Z x ∨ Z' x) wA W)) (by kernel_rfl) ?_ (fun hHeld => ?_)
  · exact Kept.drew _ _
  refine take_in (v := ?_) 0 (some 132) ?_ ?_
  case refine_2 => intro w hSw; go_simp; try with_reducible rfl
  try simp only [putS]
  refine take_in (v := ?_) 1 (some 133) ?_ ?_
  case refine_2 => intro w hSw; go_simp; try with_reducible rfl
  try simp only [putS]
  refine take_in (v := ?_) 2 (some 134) ?_ ?_
  case refine_2 => intro w hSw; go_simp; try with_reducible rfl
  try simp only [putS]
  refine take_in (v := ?_) 3 (some 135) ?_ ?_
  case refine_2 => intro w hSw; (try dsimp only at hSw); obtain ⟨a0, a1, a2, a3, b0, b1, b2, b3⟩ := (HC w hSw).out; go_simp; try with_reducible rfl
  try simp only [putS]
  refine take_in (v := ?_) 4 (some 136) ?_ ?_
  case refine_2 => intro w hSw; go_simp; try with_reducible rfl
  try simp only [putS]
  refine take_in (v := ?_) 5 (some 137) ?_ ?_
  case refine_2 => intro w hSw; (try dsimp only at hSw); obtain ⟨a0, a1, a2, a3, b0, b1, b2, b3⟩ := (HC w hSw).out; go_simp; try with_reducible rfl
  try simp only [putS]
  refine wpAnyH_ready (rs := [6]) (by kernel_rfl) (by simp) ?_
  refine AllReadyH.cons (o := _) rfl (fun K hK => ?_) AllReadyH.nil
  go_simp
  refine ((HD _ (HKA.out.then (Kept.drew Nob wA))).out.log HT.out i).mono ?_
  rintro e w1 ⟨rfl, hk1, hdoc⟩
  have HDoc := Lib.hid hdoc
  clear hdoc
  try go_wp2_with fail
  refine hK.out _ _ ((Kept.drew _ wA).trans' (hk1.mono fun x _ q => .inl q)) (fun hHeld => ?_)
  clear hK K
  try simp only [putS]
  refine wpAnyH_done (by kernel_rfl) ?_ _
  have HK1 := Lib.hid hHeld
  go_upto_region 16 with fail
  refine wp_region_held_drew (S := (fun W => Kept (fun x => Z x ∨ Z' x) wA W)) (by kernel_rfl) ?_ (fun hHeld => ?_)
  · exact HK1.out.trans' (Kept.drew _ _)
  refine take_in (v := ?_) 0 (some 139) ?_ ?_
  case refine_2 => intro w hSw; go_simp; try with_reducible rfl
  try simp only [putS]
  refine take_in (v := ?_) 1 (some 140) ?_ ?_
  case refine_2 => intro w hSw; go_simp; try with_reducible rfl
  try simp only [putS]
  refine take_in (v := ?_) 2 (some 141) ?_ ?_
  case refine_2 => intro w hSw; go_simp; try with_reducible rfl
  try simp only [putS]
  refine take_in (v := ?_) 3 (some 142) ?_ ?_
  case refine_2 => intro w hSw; (try dsimp only at hSw); obtain ⟨a0, a1, a2, a3, b0, b1, b2, b3⟩ := (HC w hSw).out; go_simp; try with_reducible rfl
  try simp only [putS]
  refine take_in (v := ?_) 4 (some 143) ?_ ?_
  case refine_2 => intro w hSw; go_simp; try with_reducible rfl
  try simp only [putS]
  refine take_in (v := ?_) 5 (some 144) ?_ ?_
  case refine_2 => intro w hSw; (try dsimp only at hSw); obtain ⟨a0, a1, a2, a3, b0, b1, b2, b3⟩ := (HC w hSw).out; go_simp; try with_reducible rfl
  try simp only [putS]
  refine wpAnyH_ready (rs := [6]) (by kernel_rfl) (by simp) ?_
  refine AllReadyH.cons (o := _) rfl (fun K hK => ?_) AllReadyH.nil
  go_simp
  refine (HDoc.out _ (Kept.drew Nob w1)).mono ?_
  rintro e w2 ⟨rfl, hto⟩
  have hk2 := hto.keeps
  have HTo := Lib.hid hto
  clear hto
  try go_wp2_with fail
  refine hK.out _ _ ((Kept.drew _ wA).trans' hk2) (fun hHeld => ?_)
  clear hK K
  try simp only [putS]
  refine wpAnyH_done (by kernel_rfl) ?_ _
  go_wp2_with fail
  go_ret
  exact ⟨rfl, HTo.out.base (HKA.out.then (Kept.drew Nob wA))⟩
set_option maxRecDepth 100000 in
set_option maxHeartbeats 8000000 in
theorem does_cut (w0 w : World) (wb bd b mb md m pages room sect n : Nat) (t : List (Nat × Nat)) (Z Z' : Nat → Prop) (x y z : Value) (D : Duo w0 w bd b mb md m pages room sect n t Z Z') (hZb : ∀ x, (Z x ∨ Z' x) → x ≠ wb)
    (hw : w.heap[wb]? = some (.cells (wCells bd (.pointer (some ⟨b, 0, none⟩)) md (.pointer (some ⟨m, 0, none⟩)) x y z) 63 (0, 0))) (pg i : Int) (yes : Bool) (il : -9223372036854775808 ≤ i) (ih : i ≤ 9223372036854775807) :
    Calls Tryz.prog 28 #[.pointer (some ⟨wb, 0, none⟩), stepV 6 pg i yes, .int .i64 pages, .int .i64 room] w (RetDoes w0 w bd b mb md m pages room sect n t Z Z') := by
  obtain ⟨d, P, Q, con, dcon, f, φ, K, K', D, rfl, rfl, rfl, ht⟩ := D
  have hwl : wb < w.heap.size := (Array.getElem?_eq_some_iff.1 hw).1
  obtain ⟨wA, hwA⟩ : ∃ wA, w.alloc (.cells #[.int .i64 6, .int .i64 pg, .int .i64 i, .bool yes] 66) = wA := ⟨_, rfl⟩
  have hkA : Kept Nob w wA := hwA ▸ Kept.alloc Nob w _
  obtain ⟨g, hg⟩ : ∃ g, w.heap.size = g := ⟨_, rfl⟩
  have hbA : wA.heap[g]? = some (.cells #[.int .i64 6, .int .i64 pg, .int .i64 i, .bool yes] 66 (0, 0)) := by rw [← hwA, ← hg]; exact heap_alloc_new w _
  have hgl : g < wA.heap.size := (Array.getElem?_eq_some_iff.1 hbA).1
  have HC : ∀ W, Kept (fun x => Z x ∨ Z' x) wA W → Hid (W.cell? ⟨wb, 0, none⟩ = some (.pointer (some ⟨bd, 0, none⟩)) ∧ W.cell? ⟨wb, 1, none⟩ = some (.pointer (some ⟨b, 0, none⟩)) ∧ W.cell? ⟨wb, 2, none⟩ = some (.pointer (some ⟨md, 0, none⟩)) ∧ W.cell? ⟨wb, 3, none⟩ = some (.pointer (some ⟨m, 0, none⟩)) ∧
      W.cell? ⟨g, 0, none⟩ = some (.int .i64 6) ∧ W.cell? ⟨g, 1, none⟩ = some (.int .i64 pg) ∧ W.cell? ⟨g, 2, none⟩ = some (.int .i64 i) ∧ W.cell? ⟨g, 3, none⟩ = some (.bool yes)) := fun W k => Lib.hid (by
    have hb := (k.block wb (Nat.lt_of_lt_of_le hwl hkA.size) (fun e => hZb wb e rfl)).trans ((hkA.block wb hwl (fun f => f)).trans hw)
    have hb2 := (k.block g hgl (fun e => by have h := e.elim (D.under g) (D.under' g); omega)).trans hbA
    exact ⟨cell_at hb 0 _ rfl, cell_at hb 1 _ rfl, cell_at hb 2 _ rfl, cell_at hb 3 _ rfl, cell_at hb2 0 _ rfl, cell_at hb2 1 _ rfl, cell_at hb2 2 _ rfl, cell_at hb2 3 _ rfl⟩)
  have HD := fun W (k : Kept Nob w W) => Lib.hid (D.nob k)
  have HKA := Lib.hid hkA
  have HT := Lib.hid ht
  have HG := Lib.hid hgl
  have HI := Lib.hid (And.intro il ih)
  clear hbA hkA hgl hw D ht il ih
  unfold stepV
  obtain ⟨a0, a1, a2, a3, b0, b1, b2, b3⟩ := (HC wA (Kept.refl _ _)).out
  go_enter Tryz.func28, Tryz.ntmps28
  go_wp2_with fail
  clear a0 a1 a2 a3 b0 b1 b2 b3 hwA hg
  refine wp_region_held_drew (S := (fun W => Kept (fun x => Z x ∨ Z' x) wA W)) (by kernel_rfl) ?_ (fun hHeld => ?_)
  · exact Kept.drew _ _
  refine take_in (v := ?_) 0 (some 227) ?_ ?_
  case refine_2 => intro w hSw; go_simp; try with_reducible rfl
  try simp only [putS]
  refine take_in (v := ?_) 1 (some 228) ?_ ?_
  case refine_2 => intro w hSw; go_simp; try with_reducible rfl
  try simp only [putS]
  refine take_in (v := ?_) 2 (some 229) ?_ ?_
  case refine_2 => intro w hSw; go_simp; try with_reducible rfl
  try simp only [putS]
  refine take_in (v := ?_) 3 (some 230) ?_ ?_
  case refine_2 => intro w hSw; (try dsimp only at hSw); obtain ⟨a0, a1, a2, a3, b0, b1, b2, b3⟩ := (HC w hSw).out; go_simp; try with_reducible rfl
  try simp only [putS]
  refine take_in (v := ?_) 4 (some 231) ?_ ?_
  case refine_2 => intro w hSw; go_simp; try with_reducible rfl
  try simp only [putS]
  refine take_in (v := ?_) 5 (some 232) ?_ ?_
  case refine_2 => intro w hSw; (try dsimp only at hSw); obtain ⟨a0, a1, a2, a3, b0, b1, b2, b3⟩ := (HC w hSw).out; go_simp; try with_reducible rfl
  try simp only [putS]
  refine wpAnyH_ready (rs := [6]) (by kernel_rfl) (by simp) ?_
  refine AllReadyH.cons (o := _) rfl (fun K hK => ?_) AllReadyH.nil
  go_simp
  refine ((HD _ (HKA.out.then (Kept.drew Nob wA))).out.cut HT.out i HI.out.1 HI.out.2).mono ?_
  rintro e w1 ⟨rfl, hk1, hdoc⟩
  have HDoc := Lib.hid hdoc
  clear hdoc
  try go_wp2_with fail
  refine hK.out _ _ ((Kept.drew _ wA).trans' (hk1.mono fun x _ q => .inl q)) (fun hHeld => ?_)
  clear hK K
  try simp only [putS]
  refine wpAnyH_done (by kernel_rfl) ?_ _
  have HK1 := Lib.hid hHeld
  go_upto_region 30 with fail
  refine wp_region_held_drew (S := (fun W => Kept (fun x => Z x ∨ Z' x) wA W)) (by kernel_rfl) ?_ (fun hHeld => ?_)
  · exact HK1.out.trans' (Kept.drew _ _)
  refine take_in (v := ?_) 0 (some 234) ?_ ?_
  case refine_2 => intro w hSw; go_simp; try with_reducible rfl
  try simp only [putS]
  refine take_in (v := ?_) 1 (some 235) ?_ ?_
  case refine_2 => intro w hSw; go_simp; try with_reducible rfl
  try simp only [putS]
  refine take_in (v := ?_) 2 (some 236) ?_ ?_
  case refine_2 => intro w hSw; go_simp; try with_reducible rfl
  try simp only [putS]
  refine take_in (v := ?_) 3 (some 237) ?_ ?_
  case refine_2 => intro w hSw; (try dsimp only at hSw); obtain ⟨a0, a1, a2, a3, b0, b1, b2, b3⟩ := (HC w hSw).out; go_simp; try with_reducible rfl
  try simp only [putS]
  refine take_in (v := ?_) 4 (some 238) ?_ ?_
  case refine_2 => intro w hSw; go_simp; try with_reducible rfl
  try simp only [putS]
  refine take_in (v := ?_) 5 (some 239) ?_ ?_
  case refine_2 => intro w hSw; (try dsimp only at hSw); obtain ⟨a0, a1, a2, a3, b0, b1, b2, b3⟩ := (HC w hSw).out; go_simp; try with_reducible rfl
  try simp only [putS]
  refine wpAnyH_ready (rs := [6]) (by kernel_rfl) (by simp) ?_
  refine AllReadyH.cons (o := _) rfl (fun K hK => ?_) AllReadyH.nil
  go_simp
  refine (HDoc.out _ (Kept.drew Nob w1)).mono ?_
  rintro e w2 ⟨rfl, hto⟩
  have hk2 := hto.keeps
  have HTo := Lib.hid hto
  clear hto
  try go_wp2_with fail
  refine hK.out _ _ ((Kept.drew _ wA).trans' hk2) (fun hHeld => ?_)
  clear hK K
  try simp only [putS]
  refine wpAnyH_done (by kernel_rfl) ?_ _
  go_wp2_with fail
  go_ret
  exact ⟨rfl, HTo.out.base (HKA.out.then (Kept.drew Nob wA))⟩
end Go.Proofs.YthppgchmamonnaaGreatDoor
