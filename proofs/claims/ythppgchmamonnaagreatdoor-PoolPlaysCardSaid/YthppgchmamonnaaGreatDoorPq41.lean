/- The law of both pools: same. -/
import Derived.Test.YthppgchmamonnaaGreatDoorPq04
import Derived.Test.YthppgchmamonnaaGreatDoorPq10
import Derived.Test.YthppgchmamonnaaGreatDoorPq40
namespace Go.Proofs.YthppgchmamonnaaGreatDoor
open Go.RowKit
def RetYes (w : World) (v : Value) (e : Ending) (w' : World) : Prop := e = .returned v ∧ Kept Nob w w'
theorem ints_yes (w : World) (v u : Value) (xs : List Int) (F G : Nat → Prop) (h1 : Reads w v (xs.map (Value.int .i64)) F) (h2 : Reads w u (xs.map (Value.int .i64)) G) (hl : xs.length < 1000000000) :
    Calls Tryz.prog 26 #[v, u] w (RetYes w (.bool true)) := by
  refine (ints_any w v u xs xs F G h1 h2 hl hl).mono ?_
  intro e w' h
  have hk := h.kept
  obtain ⟨r, n, rfl, hr, -⟩ := h
  rw [hr.2 rfl]
  exact ⟨rfl, hk⟩
section
variable {w0 w : World} {bd b mb md m : Nat} {d : Dsk} {P : Pl} {Q : DPl} {con dcon : Nat → PgM} {f : Int → DHd} {φ : Nat → Nat} {K K' Z Z' : Nat → Prop} {n : Nat}
theorem DuoAt.stats (D : DuoAt w0 w bd b mb md m d P Q con dcon f φ K K' Z Z' n) : Calls Tryz.prog 18 #[.pointer (some ⟨b, 0, none⟩)] w (RetYes w (.tuple #[.int .i64 P.hits, .int .i64 P.reads, .int .i64 P.wrote])) := by
  obtain ⟨F, S, R, L, -⟩ := D.live
  refine (pool_stats w b bd mb P S L.pool).mono ?_
  rintro e w' ⟨rfl, n, rfl⟩
  exact ⟨rfl, Kept.drewN _ _ _⟩
theorem DuoAt.ops1 (D : DuoAt w0 w bd b mb md m d P Q con dcon f φ K K' Z Z' n) : Calls Tryz.prog 19 #[.pointer (some ⟨bd, 0, none⟩)] w (RetYes w (.int .i64 d.ops)) := by
  obtain ⟨F, S, R, L, -⟩ := D.live
  refine (disk_ops' w bd d F L.disk).mono ?_
  rintro e w' ⟨rfl, rfl⟩
  exact ⟨rfl, Kept.refl _ _⟩
theorem DuoAt.cells (D : DuoAt w0 w bd b mb md m d P Q con dcon f φ K K' Z Z' n) : w.cell? ⟨m, 6, none⟩ = some (.int .i64 P.hits) ∧ w.cell? ⟨m, 7, none⟩ = some (.int .i64 P.reads) ∧ w.cell? ⟨m, 8, none⟩ = some (.int .i64 P.wrote) ∧ w.cell? ⟨md, 3, none⟩ = some (.int .i64 d.ops) := by
  obtain ⟨DR, S, R, L, -⟩ := D.dlive
  obtain ⟨hv, T, hb, -, -⟩ := L.pool.head
  obtain ⟨gv, av, nv, gs, ns, left, hd, -⟩ := L.disk
  rw [D.twin.hits, D.twin.reads, D.twin.wrote] at hb
  exact ⟨cell_at hb 6 _ rfl, cell_at hb 7 _ rfl, cell_at hb 8 _ rfl, cell_at hd 3 _ rfl⟩
theorem DuoAt.numbers0 (D : DuoAt w0 w bd b mb md m d P Q con dcon f φ K K' Z Z' n) :
    Calls Tryz.prog 61 #[.pointer (some ⟨m, 0, none⟩), .bool false] w fun e w1 => ∃ a k c, e = .returned (.slice a k c) ∧ Reads w1 (.slice a k c) ((P.all.map fun p => p.1).map (Value.int .i64)) (From w.heap.size) ∧ Kept Nob w w1 := by
  have h := D.numbers false
  rw [show (P.all.filter fun p => !false || p.2.dirty) = P.all from by simp] at h
  exact h
theorem DuoAt.numbers1 (D : DuoAt w0 w bd b mb md m d P Q con dcon f φ K K' Z Z' n) :
    Calls Tryz.prog 61 #[.pointer (some ⟨m, 0, none⟩), .bool true] w fun e w1 => ∃ a k c, e = .returned (.slice a k c) ∧ Reads w1 (.slice a k c) (((P.all.filter fun p => p.2.dirty).map fun p => p.1).map (Value.int .i64)) (From w.heap.size) ∧ Kept Nob w w1 := by
  have h := D.numbers true
  rw [show (P.all.filter fun p => !true || p.2.dirty) = P.all.filter fun p => p.2.dirty from by simp] at h
  exact h
end
set_option maxRecDepth 100000 in
set_option maxHeartbeats 8000000 in
theorem law_same (w0 w : World) (wb bd b mb md m pages room sect n : Nat) (t : List (Nat × Nat)) (Z Z' : Nat → Prop) (x y z : Value) (D : Duo w0 w bd b mb md m pages room sect n t Z Z')
    (hw : w.heap[wb]? = some (.cells (wCells bd (.pointer (some ⟨b, 0, none⟩)) md (.pointer (some ⟨m, 0, none⟩)) x y z) 63 (0, 0))) :
    Calls Tryz.prog 29 #[.pointer (some ⟨wb, 0, none⟩)] w (RetTrue w) := by
  obtain ⟨d, P, Q, con, dcon, f, φ, K, K', D, -, -, -, -⟩ := D
  obtain ⟨-, -, -, hle, hrm, -, -, -⟩ := D.live.fine
  have hwl : wb < w.heap.size := (Array.getElem?_eq_some_iff.1 hw).1
  have hlen : P.all.length ≤ 100 := Nat.le_trans hle hrm
  have HC : ∀ W, Kept Nob w W → Hid (W.cell? ⟨wb, 0, none⟩ = some (.pointer (some ⟨bd, 0, none⟩)) ∧ W.cell? ⟨wb, 1, none⟩ = some (.pointer (some ⟨b, 0, none⟩)) ∧ W.cell? ⟨wb, 2, none⟩ = some (.pointer (some ⟨md, 0, none⟩)) ∧ W.cell? ⟨wb, 3, none⟩ = some (.pointer (some ⟨m, 0, none⟩)) ∧
      W.cell? ⟨m, 6, none⟩ = some (.int .i64 P.hits) ∧ W.cell? ⟨m, 7, none⟩ = some (.int .i64 P.reads) ∧ W.cell? ⟨m, 8, none⟩ = some (.int .i64 P.wrote) ∧ W.cell? ⟨md, 3, none⟩ = some (.int .i64 d.ops)) := fun W k => Lib.hid (by
    have hb := (k.block wb hwl (fun f => f)).trans hw
    exact ⟨cell_at hb 0 _ rfl, cell_at hb 1 _ rfl, cell_at hb 2 _ rfl, cell_at hb 3 _ rfl, (D.nob k).cells⟩)
  have HS := Lib.hid D.stats
  have HHe := fun W (k : Kept Nob w W) => Lib.hid (D.nob k).held
  have HDi := fun W (k : Kept Nob w W) => Lib.hid (D.nob k).dirty
  have HN0 := fun W (k : Kept Nob w W) => Lib.hid (D.nob k).numbers0
  have HN1 := fun W (k : Kept Nob w W) => Lib.hid (D.nob k).numbers1
  have HOp := fun W (k : Kept Nob w W) => Lib.hid (D.nob k).ops1
  have hl0 : (P.all.map fun p => p.1).length < 1000000000 := by rw [List.length_map]; omega
  have hl1 : ((P.all.filter fun p => p.2.dirty).map fun p => p.1).length < 1000000000 := by
    rw [List.length_map]
    have := List.length_filter_le (fun p : Int × Hd => p.2.dirty) P.all
    omega
  have HL0 := Lib.hid hl0
  have HL1 := Lib.hid hl1
  clear hl0 hl1 hle hrm hlen D
  generalize (P.all.map fun p => p.1) = L0 at *
  generalize ((P.all.filter fun p => p.2.dirty).map fun p => p.1) = L1 at *
  generalize P.all.length = ln at *
  obtain ⟨a0, a1, a2, a3, a4, a5, a6, a7⟩ := (HC w (Kept.refl _ _)).out
  go_enter Tryz.func29, Tryz.ntmps29
  go_wp2_with (go_at_call 18; (with_reducible refine HS.out.mono ?_); rintro e w1 ⟨rfl, hk⟩; have K1 := Lib.hid hk; obtain ⟨b0, b1, b2, b3, b4, b5, b6, b7⟩ := (HC w1 K1.out).out; clear hk)
  refine wp_region_held_drew (S := (fun W => Kept Nob w W)) (by kernel_rfl) ?_ (fun hHeld => ?_)
  · exact K1.out.then (Kept.drew _ _)
  refine take_in (v := ?_) 0 (some 15) ?_ ?_
  case refine_2 => intro w hSw; go_simp; try with_reducible rfl
  try simp only [putS]
  refine take_in (v := ?_) 1 (some 16) ?_ ?_
  case refine_2 => intro w hSw; go_simp; try with_reducible rfl
  try simp only [putS]
  refine take_in (v := ?_) 2 (some 17) ?_ ?_
  case refine_2 => intro w hSw; go_simp; try with_reducible rfl
  try simp only [putS]
  refine take_in (v := ?_) 3 (some 18) ?_ ?_
  case refine_2 => (intro w hSw; (try dsimp only at hSw); obtain ⟨a0, a1, a2, a3, a4, a5, a6, a7⟩ := (HC w hSw).out; go_simp; try with_reducible rfl)
  try simp only [putS]
  refine take_in (v := ?_) 5 (some 20) ?_ ?_
  case refine_2 => intro w hSw; go_simp; try with_reducible rfl
  try simp only [putS]
  refine take_in (v := ?_) 6 (some 21) ?_ ?_
  case refine_2 => intro w hSw; go_simp; try with_reducible rfl
  try simp only [putS]
  refine take_in (v := ?_) 7 (some 22) ?_ ?_
  case refine_2 => intro w hSw; go_simp; try with_reducible rfl
  try simp only [putS]
  refine take_in (v := ?_) 8 (some 23) ?_ ?_
  case refine_2 => (intro w hSw; (try dsimp only at hSw); obtain ⟨a0, a1, a2, a3, a4, a5, a6, a7⟩ := (HC w hSw).out; go_simp; try with_reducible rfl)
  try simp only [putS]
  refine wpAnyH_ready (rs := [4]) (by kernel_rfl) (by simp) ?_
  refine AllReadyH.cons (o := _) rfl (fun K hK => ?_) AllReadyH.nil
  go_simp
  refine (HHe _ hHeld).out.mono ?_
  rintro e w2 ⟨va, vc, rfl, hr2, hk2⟩
  have R2 := Lib.hid hr2
  try go_wp2_with fail
  refine hK.out _ _ (hHeld.then hk2) (fun hHeld => ?_)
  clear hK K
  try simp only [putS]
  refine wpAnyH_ready (rs := [9]) (by kernel_rfl) (by simp) ?_
  refine AllReadyH.cons (o := _) rfl (fun K hK => ?_) AllReadyH.nil
  go_simp
  refine (HN0 _ hHeld).out.mono ?_
  rintro e w3 ⟨ua, uk, uc, rfl, hr3, hk3⟩
  have R3 := Lib.hid hr3
  have R2b := Lib.hid (R2.out.kept hk3 (fun _ _ f => f))
  try go_wp2_with fail
  refine hK.out _ _ (hHeld.then hk3) (fun hHeld => ?_)
  clear hK K
  try simp only [putS]
  refine wpAnyH_ready (rs := [10]) (by kernel_rfl) (by simp) ?_
  refine AllReadyH.cons (o := _) rfl (fun K hK => ?_) AllReadyH.nil
  go_simp
  refine (ints_yes _ _ _ _ _ _ R2b.out R3.out HL0.out).mono ?_
  rintro e w4 ⟨rfl, hk4⟩
  try go_wp2_with fail
  refine hK.out _ _ (hHeld.then hk4) (fun hHeld => ?_)
  clear hK K
  try simp only [putS]
  refine take_in (v := ?_) 11 (some 26) ?_ ?_
  case refine_2 => intro w hSw; go_simp; try with_reducible rfl
  try simp only [putS]
  refine take_in (v := ?_) 12 (some 27) ?_ ?_
  case refine_2 => intro w hSw; go_simp; try with_reducible rfl
  try simp only [putS]
  refine take_in (v := ?_) 13 (some 28) ?_ ?_
  case refine_2 => intro w hSw; go_simp; try with_reducible rfl
  try simp only [putS]
  refine take_in (v := ?_) 14 (some 29) ?_ ?_
  case refine_2 => intro w hSw; go_simp; try with_reducible rfl
  try simp only [putS]
  refine take_in (v := ?_) 15 (some 30) ?_ ?_
  case refine_2 => (intro w hSw; (try dsimp only at hSw); obtain ⟨a0, a1, a2, a3, a4, a5, a6, a7⟩ := (HC w hSw).out; go_simp; try with_reducible rfl)
  try simp only [putS]
  refine take_in (v := ?_) 17 (some 32) ?_ ?_
  case refine_2 => intro w hSw; go_simp; try with_reducible rfl
  try simp only [putS]
  refine take_in (v := ?_) 18 (some 33) ?_ ?_
  case refine_2 => intro w hSw; go_simp; try with_reducible rfl
  try simp only [putS]
  refine take_in (v := ?_) 19 (some 34) ?_ ?_
  case refine_2 => intro w hSw; go_simp; try with_reducible rfl
  try simp only [putS]
  refine take_in (v := ?_) 20 (some 35) ?_ ?_
  case refine_2 => (intro w hSw; (try dsimp only at hSw); obtain ⟨a0, a1, a2, a3, a4, a5, a6, a7⟩ := (HC w hSw).out; go_simp; try with_reducible rfl)
  try simp only [putS]
  refine wpAnyH_ready (rs := [16]) (by kernel_rfl) (by simp) ?_
  refine AllReadyH.cons (o := _) rfl (fun K hK => ?_) AllReadyH.nil
  go_simp
  refine (HDi _ hHeld).out.mono ?_
  rintro e w5 ⟨xa, xk, xc, rfl, hr5, hk5⟩
  have R5 := Lib.hid hr5
  try go_wp2_with fail
  refine hK.out _ _ (hHeld.then hk5) (fun hHeld => ?_)
  clear hK K
  try simp only [putS]
  refine wpAnyH_ready (rs := [21]) (by kernel_rfl) (by simp) ?_
  refine AllReadyH.cons (o := _) rfl (fun K hK => ?_) AllReadyH.nil
  go_simp
  refine (HN1 _ hHeld).out.mono ?_
  rintro e w6 ⟨ya, yk, yc, rfl, hr6, hk6⟩
  have R6 := Lib.hid hr6
  have R5b := Lib.hid (R5.out.kept hk6 (fun _ _ f => f))
  try go_wp2_with fail
  refine hK.out _ _ (hHeld.then hk6) (fun hHeld => ?_)
  clear hK K
  try simp only [putS]
  refine wpAnyH_ready (rs := [22]) (by kernel_rfl) (by simp) ?_
  refine AllReadyH.cons (o := _) rfl (fun K hK => ?_) AllReadyH.nil
  go_simp
  refine (ints_yes _ _ _ _ _ _ R5b.out R6.out HL1.out).mono ?_
  rintro e w7 ⟨rfl, hk7⟩
  try go_wp2_with fail
  refine hK.out _ _ (hHeld.then hk7) (fun hHeld => ?_)
  clear hK K
  try simp only [putS]
  refine take_in (v := ?_) 23 (some 38) ?_ ?_
  case refine_2 => intro w hSw; go_simp; try with_reducible rfl
  try simp only [putS]
  refine take_in (v := ?_) 24 (some 39) ?_ ?_
  case refine_2 => intro w hSw; go_simp; try with_reducible rfl
  try simp only [putS]
  refine take_in (v := ?_) 25 (some 40) ?_ ?_
  case refine_2 => intro w hSw; go_simp; try with_reducible rfl
  try simp only [putS]
  refine take_in (v := ?_) 26 (some 41) ?_ ?_
  case refine_2 => intro w hSw; go_simp; try with_reducible rfl
  try simp only [putS]
  refine take_in (v := ?_) 27 (some 42) ?_ ?_
  case refine_2 => intro w hSw; go_simp; try with_reducible rfl
  try simp only [putS]
  refine take_in (v := ?_) 28 (some 43) ?_ ?_
  case refine_2 => intro w hSw; go_simp; try with_reducible rfl
  try simp only [putS]
  refine take_in (v := ?_) 29 (some 44) ?_ ?_
  case refine_2 => (intro w hSw; (try dsimp only at hSw); obtain ⟨a0, a1, a2, a3, a4, a5, a6, a7⟩ := (HC w hSw).out; go_simp; try with_reducible rfl)
  try simp only [putS]
  refine take_in (v := ?_) 30 (some 45) ?_ ?_
  case refine_2 => intro w hSw; go_simp; try with_reducible rfl
  try simp only [putS]
  refine take_in (v := ?_) 31 (some 46) ?_ ?_
  case refine_2 => intro w hSw; go_simp; try with_reducible rfl
  try simp only [putS]
  refine take_in (v := ?_) 32 (some 47) ?_ ?_
  case refine_2 => (intro w hSw; (try dsimp only at hSw); obtain ⟨a0, a1, a2, a3, a4, a5, a6, a7⟩ := (HC w hSw).out; go_simp; try with_reducible rfl)
  try simp only [putS]
  refine take_in (v := ?_) 33 (some 48) ?_ ?_
  case refine_2 => intro w hSw; go_simp; try with_reducible rfl
  try simp only [putS]
  refine take_in (v := ?_) 34 (some 49) ?_ ?_
  case refine_2 => intro w hSw; go_simp; try with_reducible rfl
  try simp only [putS]
  refine take_in (v := ?_) 35 (some 50) ?_ ?_
  case refine_2 => intro w hSw; go_simp; try with_reducible rfl
  try simp only [putS]
  refine take_in (v := ?_) 36 (some 51) ?_ ?_
  case refine_2 => intro w hSw; go_simp; try with_reducible rfl
  try simp only [putS]
  refine take_in (v := ?_) 37 (some 52) ?_ ?_
  case refine_2 => intro w hSw; go_simp; try with_reducible rfl
  try simp only [putS]
  refine take_in (v := ?_) 38 (some 53) ?_ ?_
  case refine_2 => intro w hSw; go_simp; try with_reducible rfl
  try simp only [putS]
  refine take_in (v := ?_) 39 (some 54) ?_ ?_
  case refine_2 => intro w hSw; go_simp; try with_reducible rfl
  try simp only [putS]
  refine take_in (v := ?_) 40 (some 55) ?_ ?_
  case refine_2 => (intro w hSw; (try dsimp only at hSw); obtain ⟨a0, a1, a2, a3, a4, a5, a6, a7⟩ := (HC w hSw).out; go_simp; try with_reducible rfl)
  try simp only [putS]
  refine take_in (v := ?_) 41 (some 56) ?_ ?_
  case refine_2 => intro w hSw; go_simp; try with_reducible rfl
  try simp only [putS]
  refine take_in (v := ?_) 42 (some 57) ?_ ?_
  case refine_2 => intro w hSw; go_simp; try with_reducible rfl
  try simp only [putS]
  refine take_in (v := ?_) 43 (some 58) ?_ ?_
  case refine_2 => (intro w hSw; (try dsimp only at hSw); obtain ⟨a0, a1, a2, a3, a4, a5, a6, a7⟩ := (HC w hSw).out; go_simp; try with_reducible rfl)
  try simp only [putS]
  refine take_in (v := ?_) 44 (some 59) ?_ ?_
  case refine_2 => intro w hSw; go_simp; try with_reducible rfl
  try simp only [putS]
  refine take_in (v := ?_) 45 (some 60) ?_ ?_
  case refine_2 => intro w hSw; go_simp; try with_reducible rfl
  try simp only [putS]
  refine take_in (v := ?_) 46 (some 61) ?_ ?_
  case refine_2 => intro w hSw; go_simp; try with_reducible rfl
  try simp only [putS]
  refine take_in (v := ?_) 47 (some 62) ?_ ?_
  case refine_2 => intro w hSw; go_simp; try with_reducible rfl
  try simp only [putS]
  refine take_in (v := ?_) 48 (some 63) ?_ ?_
  case refine_2 => intro w hSw; go_simp; try with_reducible rfl
  try simp only [putS]
  refine take_in (v := ?_) 49 (some 64) ?_ ?_
  case refine_2 => intro w hSw; go_simp; try with_reducible rfl
  try simp only [putS]
  refine take_in (v := ?_) 50 (some 65) ?_ ?_
  case refine_2 => intro w hSw; go_simp; try with_reducible rfl
  try simp only [putS]
  refine take_in (v := ?_) 51 (some 66) ?_ ?_
  case refine_2 => (intro w hSw; (try dsimp only at hSw); obtain ⟨a0, a1, a2, a3, a4, a5, a6, a7⟩ := (HC w hSw).out; go_simp; try with_reducible rfl)
  try simp only [putS]
  refine take_in (v := ?_) 52 (some 67) ?_ ?_
  case refine_2 => intro w hSw; go_simp; try with_reducible rfl
  try simp only [putS]
  refine take_in (v := ?_) 53 (some 68) ?_ ?_
  case refine_2 => intro w hSw; go_simp; try with_reducible rfl
  try simp only [putS]
  refine take_in (v := ?_) 54 (some 69) ?_ ?_
  case refine_2 => (intro w hSw; (try dsimp only at hSw); obtain ⟨a0, a1, a2, a3, a4, a5, a6, a7⟩ := (HC w hSw).out; go_simp; try with_reducible rfl)
  try simp only [putS]
  refine take_in (v := ?_) 55 (some 70) ?_ ?_
  case refine_2 => intro w hSw; go_simp; try with_reducible rfl
  try simp only [putS]
  refine take_in (v := ?_) 56 (some 71) ?_ ?_
  case refine_2 => intro w hSw; go_simp; try with_reducible rfl
  try simp only [putS]
  refine take_in (v := ?_) 57 (some 72) ?_ ?_
  case refine_2 => intro w hSw; go_simp; try with_reducible rfl
  try simp only [putS]
  refine take_in (v := ?_) 58 (some 73) ?_ ?_
  case refine_2 => intro w hSw; go_simp; try with_reducible rfl
  try simp only [putS]
  refine take_in (v := ?_) 59 (some 74) ?_ ?_
  case refine_2 => intro w hSw; go_simp; try with_reducible rfl
  try simp only [putS]
  refine take_in (v := ?_) 60 (some 75) ?_ ?_
  case refine_2 => intro w hSw; go_simp; try with_reducible rfl
  try simp only [putS]
  refine take_in (v := ?_) 61 (some 76) ?_ ?_
  case refine_2 => (intro w hSw; (try dsimp only at hSw); obtain ⟨a0, a1, a2, a3, a4, a5, a6, a7⟩ := (HC w hSw).out; go_simp; try with_reducible rfl)
  try simp only [putS]
  refine take_in (v := ?_) 63 (some 78) ?_ ?_
  case refine_2 => intro w hSw; go_simp; try with_reducible rfl
  try simp only [putS]
  refine take_in (v := ?_) 64 (some 79) ?_ ?_
  case refine_2 => intro w hSw; go_simp; try with_reducible rfl
  try simp only [putS]
  refine take_in (v := ?_) 65 (some 80) ?_ ?_
  case refine_2 => intro w hSw; go_simp; try with_reducible rfl
  try simp only [putS]
  refine take_in (v := ?_) 66 (some 81) ?_ ?_
  case refine_2 => (intro w hSw; (try dsimp only at hSw); obtain ⟨a0, a1, a2, a3, a4, a5, a6, a7⟩ := (HC w hSw).out; go_simp; try with_reducible rfl)
  try simp only [putS]
  refine take_in (v := ?_) 67 (some 82) ?_ ?_
  case refine_2 => intro w hSw; go_simp; try with_reducible rfl
  try simp only [putS]
  refine take_in (v := ?_) 68 (some 83) ?_ ?_
  case refine_2 => intro w hSw; go_simp; try with_reducible rfl
  try simp only [putS]
  refine take_in (v := ?_) 69 (some 84) ?_ ?_
  case refine_2 => (intro w hSw; (try dsimp only at hSw); obtain ⟨a0, a1, a2, a3, a4, a5, a6, a7⟩ := (HC w hSw).out; go_simp; try with_reducible rfl)
  try simp only [putS]
  refine wpAnyH_ready (rs := [62]) (by kernel_rfl) (by simp) ?_
  refine AllReadyH.cons (o := _) rfl (fun K hK => ?_) AllReadyH.nil
  go_simp
  refine (HOp _ hHeld).out.mono ?_
  rintro e w8 ⟨rfl, hk8⟩
  try go_wp2_with fail
  refine hK.out _ _ (hHeld.then hk8) (fun hHeld => ?_)
  clear hK K
  try simp only [putS]
  refine take_in (v := ?_) 70 (some 85) ?_ ?_
  case refine_2 => intro w hSw; go_simp; try with_reducible rfl
  try simp only [putS]
  refine take_in (v := ?_) 71 (some 86) ?_ ?_
  case refine_2 => intro w hSw; go_simp; try with_reducible rfl
  try simp only [putS]
  refine take_in (v := ?_) 72 (some 2) ?_ ?_
  case refine_2 => intro w hSw; go_simp; try with_reducible rfl
  try simp only [putS]
  refine wpAnyH_done (by kernel_rfl) ?_ _
  go_wp2_with fail
  go_ret
  exact ⟨rfl, hHeld⟩
end Go.Proofs.YthppgchmamonnaaGreatDoor
