/- ring: next, spoil, Check. -/
import Derived.Test.YthjiobmglebmdaaGreatDoorPgScMeet
import Derived.Test.YthjiobmglebmdaaGreatDoorPgSix
import Derived.Deep.DeepCutAuto
namespace Go.Proofs.YthjiobmglebmdaaGreatDoor
open Go.RowKit
open Go.Proofs.YthjiobmglebmdaaGreatDoor.Geo

theorem bodyPost_cellv {P : Program} {fn : Func} {R : Ending → World → Prop} {a : Act} {w : World} {p : Tmp} {ty : TypeId} {g : Nat} {t : TypeId} {cs : Array Value} {d : TypeDesc}
    (h : fn.results = #[.cell p ty]) (hp : a.tmps.getD p undef = .pointer (some ⟨g, 0, none⟩)) (hg : w.heap[g]? = some (.cells cs t (0, 0)))
    (hu : P.underlying ty = some d) (hd : (match d with | .struct _ | .array _ _ => true | _ => false) = true) (hi : (P.info? ty).map (·.size) = some cs.size)
    (hdf : a.defers = []) (hR : R (.returned (.agg cs)) w) : bodyPost P fn R .ret a w :=
  bodyPost_ret (results_cell_row (P := P) h a.tmps w g t cs (0, 0) d hp hg hu hd hi) hdf hR
theorem tmod_nx {n i : Nat} (_h : i < n) : ((i : Int) + 1).tmod (n : Int) = ((nx n i : Nat) : Int) := by
  unfold nx
  rw [show ((i : Int) + 1) = ((i + 1 : Nat) : Int) from rfl, Int.ofNat_tmod]
theorem ring_next (w : World) (v : Value) (l : List Pt) (F : Nat → Prop) (h : PtsAt w v l F) (i : Nat) (hi : i < l.length) (hl : l.length < 1000000000) :
    Calls Tryz.prog 135 #[v, .int .i64 i] w fun e w' => e = .returned (.agg #[.int .i64 (l.getD (nx l.length i) (0, 0)).1, .int .i64 (l.getD (nx l.length i) (0, 0)).2]) ∧ Kept Nob w w' := by
  obtain ⟨a, cap, rfl⟩ := h.shape
  have hj := nx_lt hi
  have ht := tmod_nx hi
  have hp : l[nx l.length i]? = some (l.getD (nx l.length i) (0, 0)) := by
    rw [List.getD_eq_getElem?_getD, List.getElem?_eq_getElem hj]; rfl
  obtain ⟨b, o, rfl, -, hb, -, c0, c1⟩ := h.at hp
  generalize (l.getD (nx l.length i) (0, 0)).1 = x at *
  generalize (l.getD (nx l.length i) (0, 0)).2 = y at *
  generalize nx l.length i = j at *
  clear hp h
  have hne : ((l.length : Int) == 0) = false := beq_eq_false_iff_ne.2 (by omega)
  have hw : wrap64 ((i : Int) + 1) = (i : Int) + 1 := IntWalk.wrap64_in _ (by omega)
  go_enter Tryz.func135, Tryz.ntmps135
  go_wp2_with fail
  exact bodyPost_cellv (p := 4) (ty := 42) (g := w.heap.size) (by kernel_rfl) rfl (heap_alloc_new w _) Tryz.underlying42 rfl (by kernel_rfl) rfl ⟨rfl, Kept.alloc _ _ _⟩
theorem ring_blame (w : World) (i : Int) (t : TypeId) (u : Value) :
    Calls Tryz.prog 114 #[.int .i64 i, .iface t u] w fun e w' => ∃ g, e = .returned (.iface 94 (.pointer (some ⟨g, 0, none⟩))) ∧ Kept Nob w w' := by
  go_enter Tryz.func114, Tryz.ntmps114
  go_wp2_with fail
  go_ret
  exact ⟨_, rfl, Kept.alloc _ _ _⟩
set_option maxRecDepth 100000 in
set_option maxHeartbeats 4000000 in
set_option maxRecDepth 100000 in
set_option maxHeartbeats 4000000 in
set_option maxRecDepth 100000 in
set_option maxHeartbeats 4000000 in
set_option maxRecDepth 100000 in
set_option maxHeartbeats 4000000 in
set_option maxRecDepth 100000 in
set_option maxHeartbeats 4000000 in
set_option maxRecDepth 100000 in
set_option maxHeartbeats 4000000 in
set_option maxRecDepth 100000 in
set_option maxHeartbeats 4000000 in
set_option maxRecDepth 100000 in
set_option maxHeartbeats 4000000 in
set_option maxRecDepth 100000 in
set_option maxHeartbeats 4000000 in
theorem ring_spoil (w : World) (v : Value) (l : List Pt) (F : Nat → Prop) (h : PtsAt w v l F) (i k : Nat) (hi : i < l.length) (hk : k < l.length) (hl : l.length < 1000000000) (ho : ∀ p ∈ l, ok p = true) :
    Calls Tryz.prog 115 #[v, .int .i64 i, .int .i64 k] w fun e w' => e = .returned (.bool (spoil l i k)) ∧ Kept Nob w w' := by
  obtain ⟨a, cap, rfl⟩ := h.shape
  have HP := Lib.hid h
  have gd : ∀ j, j < l.length → l[j]? = some (l.getD j (0, 0)) := fun j hj => by rw [List.getD_eq_getElem?_getD, List.getElem?_eq_getElem hj]; rfl
  have okd : ∀ j, j < l.length → ok (l.getD j (0, 0)) = true := fun j hj => ho _ (List.mem_of_getElem? (gd j hj))
  obtain ⟨b, o, rfl, -, hb, -, c0, c1⟩ := h.at (gd i hi)
  obtain ⟨b', o', e', -, -, -, c2, c3⟩ := h.at (gd k hk)
  simp only [Option.some.injEq, Addr.mk.injEq, and_true] at e'
  obtain ⟨rfl, rfl⟩ := e'
  have O1 := Lib.hid (okd i hi)
  have O2 := Lib.hid (okd _ (nx_lt hi))
  have O3 := Lib.hid (okd k hk)
  have O4 := Lib.hid (okd _ (nx_lt hk))
  have HNi := fun (wx : World) (kx : Kept Nob w wx) => Lib.hid (ring_next wx _ l F (HP.out.nob kx) i hi hl)
  have HNk := fun (wx : World) (kx : Kept Nob w wx) => Lib.hid (ring_next wx _ l F (HP.out.nob kx) k hk hl)
  have ti := tmod_nx hi
  have tk := tmod_nx hk
  have hne : ((l.length : Int) == 0) = false := beq_eq_false_iff_ne.2 (by omega)
  have wi : wrap64 ((i : Int) + 1) = (i : Int) + 1 := IntWalk.wrap64_in _ (by omega)
  have wk : wrap64 ((k : Int) + 1) = (k : Int) + 1 := IntWalk.wrap64_in _ (by omega)
  have hi' : (i : Int) < (l.length : Int) := Int.ofNat_lt.2 hi
  have hk' : (k : Int) < (l.length : Int) := Int.ofNat_lt.2 hk
  have hi0 : (0 : Int) ≤ (i : Int) := Int.natCast_nonneg _
  have hk0 : (0 : Int) ≤ (k : Int) := Int.natCast_nonneg _
  obtain ⟨r, hr⟩ : ∃ r, spoil l i k = r := ⟨_, rfl⟩
  rw [hr]
  have HR := Lib.hid hr
  unfold spoil at HR
  clear hr h gd okd ho
  generalize l.getD (nx l.length i) (0, 0) = P2 at *
  generalize l.getD (nx l.length k) (0, 0) = P4 at *
  generalize l.getD i (0, 0) = P1 at *
  generalize l.getD k (0, 0) = P3 at *
  generalize nx l.length i = ni at *
  generalize nx l.length k = nk at *
  obtain ⟨x1, y1⟩ := P1
  obtain ⟨x2, y2⟩ := P2
  obtain ⟨x3, y3⟩ := P3
  obtain ⟨x4, y4⟩ := P4
  simp only at c0 c1 c2 c3 HNi HNk
  go_enter Tryz.func115, Tryz.ntmps115
  go_upto_region 2 with fail
  go_cut [7, 8, 9, 10] (fun s7 s8 s9 s10 wx => ∃ g7 g8 g9 g10, s7 = .pointer (some ⟨g7, 0, none⟩) ∧ s8 = .pointer (some ⟨g8, 0, none⟩) ∧ s9 = .pointer (some ⟨g9, 0, none⟩) ∧ s10 = .pointer (some ⟨g10, 0, none⟩) ∧ Kept Nob w wx ∧
    wx.heap[g7]? = some (.cells #[.int .i64 x1, .int .i64 y1] 42 (0, 0)) ∧ wx.heap[g8]? = some (.cells #[.int .i64 x2, .int .i64 y2] 42 (0, 0)) ∧ wx.heap[g9]? = some (.cells #[.int .i64 x3, .int .i64 y3] 42 (0, 0)) ∧ wx.heap[g10]? = some (.cells #[.int .i64 x4, .int .i64 y4] 42 (0, 0)))
  case first =>
    refine wp_region_held_drew (S := (fun w' => Kept Nob w w')) (by kernel_rfl) ?_ (fun hHeld => ?_)
    · exact Kept.drew _ _
    refine take_to (i := 0) (oi := _) (v := ?_) (some 11) rfl (by kernel_rfl) (by kernel_rfl) (by kernel_rfl) (by kernel_rfl) (fun _ _ _ h => h) (Or.inl ⟨by kernel_rfl, ?_⟩) (by assumption) ?_
    case refine_2 => (intro w hSw; (try dsimp only at hSw); go_simp; try with_reducible rfl)
    try simp only [Act.put, List.setIfInBounds_toArray, List.set_cons_zero, List.set_cons_succ]
    refine take_to (i := 1) (oi := _) (v := ?_) (some 12) rfl (by kernel_rfl) (by kernel_rfl) (by kernel_rfl) (by kernel_rfl) (fun _ _ _ h => h) (Or.inl ⟨by kernel_rfl, ?_⟩) (by assumption) ?_
    case refine_2 => (intro w hSw; (try dsimp only at hSw); go_simp; try with_reducible rfl)
    try simp only [Act.put, List.setIfInBounds_toArray, List.set_cons_zero, List.set_cons_succ]
    refine take_to (i := 2) (oi := _) (v := ?_) (some 13) rfl (by kernel_rfl) (by kernel_rfl) (by kernel_rfl) (by kernel_rfl) (fun _ _ _ h => h) (Or.inl ⟨by kernel_rfl, ?_⟩) (by assumption) ?_
    case refine_2 => (intro w hSw; (try dsimp only at hSw); go_simp; try with_reducible rfl)
    try simp only [Act.put, List.setIfInBounds_toArray, List.set_cons_zero, List.set_cons_succ]
    refine take_to (i := 3) (oi := _) (v := ?_) (some 14) rfl (by kernel_rfl) (by kernel_rfl) (by kernel_rfl) (by kernel_rfl) (fun _ _ _ h => h) (Or.inl ⟨by kernel_rfl, ?_⟩) (by assumption) ?_
    case refine_2 => (intro w hSw; (try dsimp only at hSw); (have k0 := (hSw.cell (p := ⟨b, o + i * 2, none⟩) hb (fun f => f)).trans c0; have k1 := (hSw.cell (p := ⟨b, o + i * 2 + 1, none⟩) hb (fun f => f)).trans c1; have k2 := (hSw.cell (p := ⟨b, o + k * 2, none⟩) hb (fun f => f)).trans c2; have k3 := (hSw.cell (p := ⟨b, o + k * 2 + 1, none⟩) hb (fun f => f)).trans c3); go_simp; try with_reducible rfl)
    try simp only [Act.put, List.setIfInBounds_toArray, List.set_cons_zero, List.set_cons_succ]
    refine take_to (i := 4) (oi := _) (v := ?_) (some 15) rfl (by kernel_rfl) (by kernel_rfl) (by kernel_rfl) (by kernel_rfl) (fun _ _ _ h => h) (Or.inl ⟨by kernel_rfl, ?_⟩) (by assumption) ?_
    case refine_2 => (intro w hSw; (try dsimp only at hSw); go_simp; try with_reducible rfl)
    try simp only [Act.put, List.setIfInBounds_toArray, List.set_cons_zero, List.set_cons_succ]
    refine take_to (i := 5) (oi := _) (v := ?_) (some 16) rfl (by kernel_rfl) (by kernel_rfl) (by kernel_rfl) (by kernel_rfl) (fun _ _ _ h => h) (Or.inl ⟨by kernel_rfl, ?_⟩) (by assumption) ?_
    case refine_2 => (intro w hSw; (try dsimp only at hSw); go_simp; try with_reducible rfl)
    try simp only [Act.put, List.setIfInBounds_toArray, List.set_cons_zero, List.set_cons_succ]
    refine take_to (i := 7) (oi := _) (v := ?_) (some 18) rfl (by kernel_rfl) (by kernel_rfl) (by kernel_rfl) (by kernel_rfl) (fun _ _ _ h => h) (Or.inl ⟨by kernel_rfl, ?_⟩) (by assumption) ?_
    case refine_2 => (intro w hSw; (try dsimp only at hSw); go_simp; try with_reducible rfl)
    try simp only [Act.put, List.setIfInBounds_toArray, List.set_cons_zero, List.set_cons_succ]
    refine take_to (i := 8) (oi := _) (v := ?_) (some 19) rfl (by kernel_rfl) (by kernel_rfl) (by kernel_rfl) (by kernel_rfl) (fun _ _ _ h => h) (Or.inl ⟨by kernel_rfl, ?_⟩) (by assumption) ?_
    case refine_2 => (intro w hSw; (try dsimp only at hSw); go_simp; try with_reducible rfl)
    try simp only [Act.put, List.setIfInBounds_toArray, List.set_cons_zero, List.set_cons_succ]
    refine take_to (i := 9) (oi := _) (v := ?_) (some 20) rfl (by kernel_rfl) (by kernel_rfl) (by kernel_rfl) (by kernel_rfl) (fun _ _ _ h => h) (Or.inl ⟨by kernel_rfl, ?_⟩) (by assumption) ?_
    case refine_2 => (intro w hSw; (try dsimp only at hSw); go_simp; try with_reducible rfl)
    try simp only [Act.put, List.setIfInBounds_toArray, List.set_cons_zero, List.set_cons_succ]
    refine take_to (i := 10) (oi := _) (v := ?_) (some 21) rfl (by kernel_rfl) (by kernel_rfl) (by kernel_rfl) (by kernel_rfl) (fun _ _ _ h => h) (Or.inl ⟨by kernel_rfl, ?_⟩) (by assumption) ?_
    case refine_2 => (intro w hSw; (try dsimp only at hSw); (have k0 := (hSw.cell (p := ⟨b, o + i * 2, none⟩) hb (fun f => f)).trans c0; have k1 := (hSw.cell (p := ⟨b, o + i * 2 + 1, none⟩) hb (fun f => f)).trans c1; have k2 := (hSw.cell (p := ⟨b, o + k * 2, none⟩) hb (fun f => f)).trans c2; have k3 := (hSw.cell (p := ⟨b, o + k * 2 + 1, none⟩) hb (fun f => f)).trans c3); go_simp; try with_reducible rfl)
    try simp only [Act.put, List.setIfInBounds_toArray, List.set_cons_zero, List.set_cons_succ]
    refine take_to (i := 11) (oi := _) (v := ?_) (some 22) rfl (by kernel_rfl) (by kernel_rfl) (by kernel_rfl) (by kernel_rfl) (fun _ _ _ h => h) (Or.inl ⟨by kernel_rfl, ?_⟩) (by assumption) ?_
    case refine_2 => (intro w hSw; (try dsimp only at hSw); go_simp; try with_reducible rfl)
    try simp only [Act.put, List.setIfInBounds_toArray, List.set_cons_zero, List.set_cons_succ]
    refine take_to (i := 12) (oi := _) (v := ?_) (some 23) rfl (by kernel_rfl) (by kernel_rfl) (by kernel_rfl) (by kernel_rfl) (fun _ _ _ h => h) (Or.inl ⟨by kernel_rfl, ?_⟩) (by assumption) ?_
    case refine_2 => (intro w hSw; (try dsimp only at hSw); go_simp; try with_reducible rfl)
    try simp only [Act.put, List.setIfInBounds_toArray, List.set_cons_zero, List.set_cons_succ]
    refine six (m := 4) 6 13 14 15 16 17 (fun a0 b0 c0 d0 e0 f0 => #[true, true, true, true, true, true, a0, true, true, true, true, true, true, b0, c0, d0, e0, f0, false, false, false, false]) (fun a0 b0 c0 d0 e0 f0 A W => ∃ p7 p8 p9 p10 v17 v24, A = { tmps := List.toArray ((.slice (some ⟨b, o, none⟩) l.length cap : Value) :: (.int .i64 (i : Int) : Value) :: (.int .i64 (k : Int) : Value) :: undef :: undef :: undef :: (.bool false : Value) :: p7 :: p8 :: p9 :: p10 :: (.slice (some ⟨b, o, none⟩) l.length cap : Value) :: (.int .i64 (i : Int) : Value) :: (.pointer (some ⟨b, o + i * 2, none⟩) : Value) :: (.agg #[.int .i64 x1, .int .i64 y1] : Value) :: (.slice (some ⟨b, o, none⟩) l.length cap : Value) :: (.int .i64 (i : Int) : Value) :: v17 :: (.slice (some ⟨b, o, none⟩) l.length cap : Value) :: (.int .i64 (k : Int) : Value) :: (.pointer (some ⟨b, o + k * 2, none⟩) : Value) :: (.agg #[.int .i64 x3, .int .i64 y3] : Value) :: (.slice (some ⟨b, o, none⟩) l.length cap : Value) :: (.int .i64 (k : Int) : Value) :: v24 :: undef :: undef :: undef :: undef :: undef :: undef :: undef :: undef :: undef :: undef :: undef :: undef :: undef :: undef :: undef :: undef :: undef :: undef :: undef :: undef :: undef :: undef :: undef :: undef :: undef :: undef :: undef :: undef :: undef :: undef :: undef :: undef :: undef :: undef :: undef :: undef :: undef :: undef :: undef :: undef :: undef :: undef :: undef :: undef :: undef :: []), defers := [] } ∧ Kept Nob w W ∧ (a0 = true → v17 = .agg #[.int .i64 x2, .int .i64 y2]) ∧ (b0 = true → v24 = .agg #[.int .i64 x4, .int .i64 y4]) ∧ Boxes w W (.cells #[.int .i64 0, .int .i64 0] 42) [(c0, p7), (d0, p8), (e0, p9), (f0, p10)]) ?_ ?_ ?_ ?_ ?_ ?_ ?_ ?_ ?_ ?_ ?_ ?_ ?_ ?_ ?_ ?_ ?_ 6 false false false false false false _ _ rfl rfl ⟨_, _, _, _, _, _, rfl, hHeld, (by simp), (by simp), ⟨fun _ => 0, (by intro i v hi; match i, hi with | 0, hi => simp at hi | 1, hi => simp at hi | 2, hi => simp at hi | 3, hi => simp at hi | j + 4, hi => simp at hi), (by intro i j u v hi; match i, hi with | 0, hi => simp at hi | 1, hi => simp at hi | 2, hi => simp at hi | 3, hi => simp at hi | j + 4, hi => simp at hi)⟩⟩
    · decide +kernel
    · decide +kernel
    · intros; rfl
    · intros; rfl
    · intros; rfl
    · intros; rfl
    · intros; rfl
    · intros; rfl
    · rintro b1 c1' d1 e1 f1 A W K ⟨p7, p8, p9, p10, v17, v24, rfl, hkW, h17, h24, hB⟩ HK
      refine op_step (o := _) rfl (fun K' hK => ?_)
      go_simp
      go_at_call 135
      refine (HNi _ hkW).out.mono ?_
      rintro e w' ⟨rfl, hk'⟩
      refine hK.out _ _ (HK.out _ _ (hkW.then hk') ⟨p7, p8, p9, p10, _, v24, rfl, hkW.then hk', fun _ => rfl, h24, hB.kept hk'⟩)
    · rintro c1' d1 e1 f1 A W K ⟨p7, p8, p9, p10, v17, v24, rfl, hkW, h17, h24, hB⟩ HK
      obtain rfl := h17 rfl
      clear h17 h24
      refine op_step (o := _) rfl (fun K' hK => ?_)
      go_simp
      go_at_call 135
      refine (HNk _ hkW).out.mono ?_
      rintro e w' ⟨rfl, hk'⟩
      refine hK.out _ _ (HK.out _ _ (hkW.then hk') ⟨p7, p8, p9, p10, _, _, rfl, hkW.then hk', fun _ => rfl, fun _ => rfl, hB.kept hk'⟩)
    · rintro a1 b1 d1 e1 f1 A W K ⟨p7, p8, p9, p10, v17, v24, rfl, hkW, h17, h24, hB⟩ HK
      refine op_step (o := _) rfl (fun K' hK => ?_)
      go_simp
      refine hK.out _ _ (HK.out _ _ (hkW.then (Kept.alloc Nob _ _)) ⟨_, p8, p9, p10, v17, v24, rfl, hkW.then (Kept.alloc Nob _ _), h17, h24, hB.set hkW.size 0⟩)
    · rintro a1 b1 c1' e1 f1 A W K ⟨p7, p8, p9, p10, v17, v24, rfl, hkW, h17, h24, hB⟩ HK
      refine op_step (o := _) rfl (fun K' hK => ?_)
      go_simp
      refine hK.out _ _ (HK.out _ _ (hkW.then (Kept.alloc Nob _ _)) ⟨p7, _, p9, p10, v17, v24, rfl, hkW.then (Kept.alloc Nob _ _), h17, h24, hB.set hkW.size 1⟩)
    · rintro a1 b1 c1' d1 f1 A W K ⟨p7, p8, p9, p10, v17, v24, rfl, hkW, h17, h24, hB⟩ HK
      refine op_step (o := _) rfl (fun K' hK => ?_)
      go_simp
      refine hK.out _ _ (HK.out _ _ (hkW.then (Kept.alloc Nob _ _)) ⟨p7, p8, _, p10, v17, v24, rfl, hkW.then (Kept.alloc Nob _ _), h17, h24, hB.set hkW.size 2⟩)
    · rintro a1 b1 c1' d1 e1 A W K ⟨p7, p8, p9, p10, v17, v24, rfl, hkW, h17, h24, hB⟩ HK
      refine op_step (o := _) rfl (fun K' hK => ?_)
      go_simp
      refine hK.out _ _ (HK.out _ _ (hkW.then (Kept.alloc Nob _ _)) ⟨p7, p8, p9, _, v17, v24, rfl, hkW.then (Kept.alloc Nob _ _), h17, h24, hB.set hkW.size 3⟩)
    · rintro A W ⟨p7, p8, p9, p10, v17, v24, rfl, hkW, h17, h24, gs, h1, h2⟩
      obtain ⟨rfl, l7, u7, b7⟩ := h1 0 p7 rfl
      obtain ⟨rfl, l8, u8, b8⟩ := h1 1 p8 rfl
      obtain ⟨rfl, l9, u9, b9⟩ := h1 2 p9 rfl
      obtain ⟨rfl, l10, u10, b10⟩ := h1 3 p10 rfl
      have n78 := h2 0 1 _ _ rfl rfl (by omega)
      have n79 := h2 0 2 _ _ rfl rfl (by omega)
      have n70 := h2 0 3 _ _ rfl rfl (by omega)
      have n89 := h2 1 2 _ _ rfl rfl (by omega)
      have n80 := h2 1 3 _ _ rfl rfl (by omega)
      have n90 := h2 2 3 _ _ rfl rfl (by omega)
      clear h1 h2 h17 h24
      generalize gs 0 = g7 at *
      generalize gs 1 = g8 at *
      generalize gs 2 = g9 at *
      generalize gs 3 = g10 at *
      refine wpAnyH_ready (rs := [6]) (by kernel_rfl) (by simp) ?_
      refine AllReadyH.cons (o := _) rfl (fun K hK => ?_) AllReadyH.nil
      go_simp
      go_at_call 135
      refine (HNi _ hkW).out.mono ?_
      rintro e W11 ⟨rfl, hk'⟩
      have b7 := (hk'.block g7 u7 (fun f => f)).trans b7
      have u7 := Nat.lt_of_lt_of_le u7 hk'.size
      have b8 := (hk'.block g8 u8 (fun f => f)).trans b8
      have u8 := Nat.lt_of_lt_of_le u8 hk'.size
      have b9 := (hk'.block g9 u9 (fun f => f)).trans b9
      have u9 := Nat.lt_of_lt_of_le u9 hk'.size
      have b10 := (hk'.block g10 u10 (fun f => f)).trans b10
      have u10 := Nat.lt_of_lt_of_le u10 hk'.size
      have hkW := hkW.then hk'
      clear hk'
      refine hK.out _ _ hkW (fun _ => ?_)
      clear hK K
      try simp only [List.setIfInBounds_toArray, List.set_cons_zero, List.set_cons_succ]
      refine wpAnyH_ready (rs := [13]) (by kernel_rfl) (by simp) ?_
      refine AllReadyH.cons (o := _) rfl (fun K hK => ?_) AllReadyH.nil
      go_simp
      go_at_call 135
      refine (HNk _ hkW).out.mono ?_
      rintro e W12 ⟨rfl, hk'⟩
      have b7 := (hk'.block g7 u7 (fun f => f)).trans b7
      have u7 := Nat.lt_of_lt_of_le u7 hk'.size
      have b8 := (hk'.block g8 u8 (fun f => f)).trans b8
      have u8 := Nat.lt_of_lt_of_le u8 hk'.size
      have b9 := (hk'.block g9 u9 (fun f => f)).trans b9
      have u9 := Nat.lt_of_lt_of_le u9 hk'.size
      have b10 := (hk'.block g10 u10 (fun f => f)).trans b10
      have u10 := Nat.lt_of_lt_of_le u10 hk'.size
      have hkW := hkW.then hk'
      clear hk'
      refine hK.out _ _ hkW (fun _ => ?_)
      clear hK K
      try simp only [List.setIfInBounds_toArray, List.set_cons_zero, List.set_cons_succ]
      refine wpAnyH_ready (rs := [18]) (by kernel_rfl) (by simp) ?_
      refine AllReadyH.cons (o := _) rfl (fun K hK => ?_) AllReadyH.nil
      have c7 := cell_at b7 0 _ rfl
      have d7 := cell_at b7 1 _ rfl
      have e7 := frozen_at b7 0
      have f7 := frozen_at b7 1
      go_simp
      clear c7 d7 e7 f7
      have q := set2 (.int .i64 x1) (.int .i64 y1) b7
      have hkW := hkW.from (Nat.le_refl _) (q.2.mono (G := From w.heap.size) (fun x _ e => by rw [show x = g7 from e]; exact l7))
      refine hK.out _ _ hkW (fun _ => ?_)
      clear hK K
      try simp only [List.setIfInBounds_toArray, List.set_cons_zero, List.set_cons_succ]
      generalize (World.setCell (World.setCell W12 ⟨g7, 0, none⟩ _) ⟨g7, 1, none⟩ _) = W13 at *
      have b8 := (q.2.block g8 u8 (fun e => n78 (Eq.symm e))).trans b8
      have u8 := Nat.lt_of_lt_of_le u8 q.2.size
      have b9 := (q.2.block g9 u9 (fun e => n79 (Eq.symm e))).trans b9
      have u9 := Nat.lt_of_lt_of_le u9 q.2.size
      have b10 := (q.2.block g10 u10 (fun e => n70 (Eq.symm e))).trans b10
      have u10 := Nat.lt_of_lt_of_le u10 q.2.size
      have u7 := Nat.lt_of_lt_of_le u7 q.2.size
      have b7 := q.1
      clear q
      refine wpAnyH_ready (rs := [19]) (by kernel_rfl) (by simp) ?_
      refine AllReadyH.cons (o := _) rfl (fun K hK => ?_) AllReadyH.nil
      have c7 := cell_at b8 0 _ rfl
      have d7 := cell_at b8 1 _ rfl
      have e7 := frozen_at b8 0
      have f7 := frozen_at b8 1
      go_simp
      clear c7 d7 e7 f7
      have q := set2 (.int .i64 x2) (.int .i64 y2) b8
      have hkW := hkW.from (Nat.le_refl _) (q.2.mono (G := From w.heap.size) (fun x _ e => by rw [show x = g8 from e]; exact l8))
      refine hK.out _ _ hkW (fun _ => ?_)
      clear hK K
      try simp only [List.setIfInBounds_toArray, List.set_cons_zero, List.set_cons_succ]
      generalize (World.setCell (World.setCell W13 ⟨g8, 0, none⟩ _) ⟨g8, 1, none⟩ _) = W14 at *
      have b7 := (q.2.block g7 u7 (fun e => n78 e)).trans b7
      have u7 := Nat.lt_of_lt_of_le u7 q.2.size
      have b9 := (q.2.block g9 u9 (fun e => n89 (Eq.symm e))).trans b9
      have u9 := Nat.lt_of_lt_of_le u9 q.2.size
      have b10 := (q.2.block g10 u10 (fun e => n80 (Eq.symm e))).trans b10
      have u10 := Nat.lt_of_lt_of_le u10 q.2.size
      have u8 := Nat.lt_of_lt_of_le u8 q.2.size
      have b8 := q.1
      clear q
      refine wpAnyH_ready (rs := [20]) (by kernel_rfl) (by simp) ?_
      refine AllReadyH.cons (o := _) rfl (fun K hK => ?_) AllReadyH.nil
      have c7 := cell_at b9 0 _ rfl
      have d7 := cell_at b9 1 _ rfl
      have e7 := frozen_at b9 0
      have f7 := frozen_at b9 1
      go_simp
      clear c7 d7 e7 f7
      have q := set2 (.int .i64 x3) (.int .i64 y3) b9
      have hkW := hkW.from (Nat.le_refl _) (q.2.mono (G := From w.heap.size) (fun x _ e => by rw [show x = g9 from e]; exact l9))
      refine hK.out _ _ hkW (fun _ => ?_)
      clear hK K
      try simp only [List.setIfInBounds_toArray, List.set_cons_zero, List.set_cons_succ]
      generalize (World.setCell (World.setCell W14 ⟨g9, 0, none⟩ _) ⟨g9, 1, none⟩ _) = W15 at *
      have b7 := (q.2.block g7 u7 (fun e => n79 e)).trans b7
      have u7 := Nat.lt_of_lt_of_le u7 q.2.size
      have b8 := (q.2.block g8 u8 (fun e => n89 e)).trans b8
      have u8 := Nat.lt_of_lt_of_le u8 q.2.size
      have b10 := (q.2.block g10 u10 (fun e => n90 (Eq.symm e))).trans b10
      have u10 := Nat.lt_of_lt_of_le u10 q.2.size
      have u9 := Nat.lt_of_lt_of_le u9 q.2.size
      have b9 := q.1
      clear q
      refine wpAnyH_ready (rs := [21]) (by kernel_rfl) (by simp) ?_
      refine AllReadyH.cons (o := _) rfl (fun K hK => ?_) AllReadyH.nil
      have c7 := cell_at b10 0 _ rfl
      have d7 := cell_at b10 1 _ rfl
      have e7 := frozen_at b10 0
      have f7 := frozen_at b10 1
      go_simp
      clear c7 d7 e7 f7
      have q := set2 (.int .i64 x4) (.int .i64 y4) b10
      have hkW := hkW.from (Nat.le_refl _) (q.2.mono (G := From w.heap.size) (fun x _ e => by rw [show x = g10 from e]; exact l10))
      refine hK.out _ _ hkW (fun _ => ?_)
      clear hK K
      try simp only [List.setIfInBounds_toArray, List.set_cons_zero, List.set_cons_succ]
      generalize (World.setCell (World.setCell W15 ⟨g10, 0, none⟩ _) ⟨g10, 1, none⟩ _) = W16 at *
      have b7 := (q.2.block g7 u7 (fun e => n70 e)).trans b7
      have u7 := Nat.lt_of_lt_of_le u7 q.2.size
      have b8 := (q.2.block g8 u8 (fun e => n80 e)).trans b8
      have u8 := Nat.lt_of_lt_of_le u8 q.2.size
      have b9 := (q.2.block g9 u9 (fun e => n90 e)).trans b9
      have u9 := Nat.lt_of_lt_of_le u9 q.2.size
      have u10 := Nat.lt_of_lt_of_le u10 q.2.size
      have b10 := q.1
      clear q
      refine wpAnyH_done (by kernel_rfl) ?_ _
      go_wp2_with fail
      go_meet
      exact ⟨g7, g8, g9, g10, rfl, rfl, rfl, rfl, hkW, b7, b8, b9, b10⟩
    · rintro A W ⟨p7, p8, p9, p10, v17, v24, rfl, hkW, h17, h24, gs, h1, h2⟩
      obtain rfl := h17 rfl
      obtain ⟨rfl, l7, u7, b7⟩ := h1 0 p7 rfl
      obtain ⟨rfl, l8, u8, b8⟩ := h1 1 p8 rfl
      obtain ⟨rfl, l9, u9, b9⟩ := h1 2 p9 rfl
      obtain ⟨rfl, l10, u10, b10⟩ := h1 3 p10 rfl
      have n78 := h2 0 1 _ _ rfl rfl (by omega)
      have n79 := h2 0 2 _ _ rfl rfl (by omega)
      have n70 := h2 0 3 _ _ rfl rfl (by omega)
      have n89 := h2 1 2 _ _ rfl rfl (by omega)
      have n80 := h2 1 3 _ _ rfl rfl (by omega)
      have n90 := h2 2 3 _ _ rfl rfl (by omega)
      clear h1 h2 h17 h24
      generalize gs 0 = g7 at *
      generalize gs 1 = g8 at *
      generalize gs 2 = g9 at *
      generalize gs 3 = g10 at *
      refine wpAnyH_ready (rs := [13]) (by kernel_rfl) (by simp) ?_
      refine AllReadyH.cons (o := _) rfl (fun K hK => ?_) AllReadyH.nil
      go_simp
      go_at_call 135
      refine (HNk _ hkW).out.mono ?_
      rintro e W17 ⟨rfl, hk'⟩
      have b7 := (hk'.block g7 u7 (fun f => f)).trans b7
      have u7 := Nat.lt_of_lt_of_le u7 hk'.size
      have b8 := (hk'.block g8 u8 (fun f => f)).trans b8
      have u8 := Nat.lt_of_lt_of_le u8 hk'.size
      have b9 := (hk'.block g9 u9 (fun f => f)).trans b9
      have u9 := Nat.lt_of_lt_of_le u9 hk'.size
      have b10 := (hk'.block g10 u10 (fun f => f)).trans b10
      have u10 := Nat.lt_of_lt_of_le u10 hk'.size
      have hkW := hkW.then hk'
      clear hk'
      refine hK.out _ _ hkW (fun _ => ?_)
      clear hK K
      try simp only [List.setIfInBounds_toArray, List.set_cons_zero, List.set_cons_succ]
      refine wpAnyH_ready (rs := [18]) (by kernel_rfl) (by simp) ?_
      refine AllReadyH.cons (o := _) rfl (fun K hK => ?_) AllReadyH.nil
      have c7 := cell_at b7 0 _ rfl
      have d7 := cell_at b7 1 _ rfl
      have e7 := frozen_at b7 0
      have f7 := frozen_at b7 1
      go_simp
      clear c7 d7 e7 f7
      have q := set2 (.int .i64 x1) (.int .i64 y1) b7
      have hkW := hkW.from (Nat.le_refl _) (q.2.mono (G := From w.heap.size) (fun x _ e => by rw [show x = g7 from e]; exact l7))
      refine hK.out _ _ hkW (fun _ => ?_)
      clear hK K
      try simp only [List.setIfInBounds_toArray, List.set_cons_zero, List.set_cons_succ]
      generalize (World.setCell (World.setCell W17 ⟨g7, 0, none⟩ _) ⟨g7, 1, none⟩ _) = W18 at *
      have b8 := (q.2.block g8 u8 (fun e => n78 (Eq.symm e))).trans b8
      have u8 := Nat.lt_of_lt_of_le u8 q.2.size
      have b9 := (q.2.block g9 u9 (fun e => n79 (Eq.symm e))).trans b9
      have u9 := Nat.lt_of_lt_of_le u9 q.2.size
      have b10 := (q.2.block g10 u10 (fun e => n70 (Eq.symm e))).trans b10
      have u10 := Nat.lt_of_lt_of_le u10 q.2.size
      have u7 := Nat.lt_of_lt_of_le u7 q.2.size
      have b7 := q.1
      clear q
      refine wpAnyH_ready (rs := [19]) (by kernel_rfl) (by simp) ?_
      refine AllReadyH.cons (o := _) rfl (fun K hK => ?_) AllReadyH.nil
      have c7 := cell_at b8 0 _ rfl
      have d7 := cell_at b8 1 _ rfl
      have e7 := frozen_at b8 0
      have f7 := frozen_at b8 1
      go_simp
      clear c7 d7 e7 f7
      have q := set2 (.int .i64 x2) (.int .i64 y2) b8
      have hkW := hkW.from (Nat.le_refl _) (q.2.mono (G := From w.heap.size) (fun x _ e => by rw [show x = g8 from e]; exact l8))
      refine hK.out _ _ hkW (fun _ => ?_)
      clear hK K
      try simp only [List.setIfInBounds_toArray, List.set_cons_zero, List.set_cons_succ]
      generalize (World.setCell (World.setCell W18 ⟨g8, 0, none⟩ _) ⟨g8, 1, none⟩ _) = W19 at *
      have b7 := (q.2.block g7 u7 (fun e => n78 e)).trans b7
      have u7 := Nat.lt_of_lt_of_le u7 q.2.size
      have b9 := (q.2.block g9 u9 (fun e => n89 (Eq.symm e))).trans b9
      have u9 := Nat.lt_of_lt_of_le u9 q.2.size
      have b10 := (q.2.block g10 u10 (fun e => n80 (Eq.symm e))).trans b10
      have u10 := Nat.lt_of_lt_of_le u10 q.2.size
      have u8 := Nat.lt_of_lt_of_le u8 q.2.size
      have b8 := q.1
      clear q
      refine wpAnyH_ready (rs := [20]) (by kernel_rfl) (by simp) ?_
      refine AllReadyH.cons (o := _) rfl (fun K hK => ?_) AllReadyH.nil
      have c7 := cell_at b9 0 _ rfl
      have d7 := cell_at b9 1 _ rfl
      have e7 := frozen_at b9 0
      have f7 := frozen_at b9 1
      go_simp
      clear c7 d7 e7 f7
      have q := set2 (.int .i64 x3) (.int .i64 y3) b9
      have hkW := hkW.from (Nat.le_refl _) (q.2.mono (G := From w.heap.size) (fun x _ e => by rw [show x = g9 from e]; exact l9))
      refine hK.out _ _ hkW (fun _ => ?_)
      clear hK K
      try simp only [List.setIfInBounds_toArray, List.set_cons_zero, List.set_cons_succ]
      generalize (World.setCell (World.setCell W19 ⟨g9, 0, none⟩ _) ⟨g9, 1, none⟩ _) = W20 at *
      have b7 := (q.2.block g7 u7 (fun e => n79 e)).trans b7
      have u7 := Nat.lt_of_lt_of_le u7 q.2.size
      have b8 := (q.2.block g8 u8 (fun e => n89 e)).trans b8
      have u8 := Nat.lt_of_lt_of_le u8 q.2.size
      have b10 := (q.2.block g10 u10 (fun e => n90 (Eq.symm e))).trans b10
      have u10 := Nat.lt_of_lt_of_le u10 q.2.size
      have u9 := Nat.lt_of_lt_of_le u9 q.2.size
      have b9 := q.1
      clear q
      refine wpAnyH_ready (rs := [21]) (by kernel_rfl) (by simp) ?_
      refine AllReadyH.cons (o := _) rfl (fun K hK => ?_) AllReadyH.nil
      have c7 := cell_at b10 0 _ rfl
      have d7 := cell_at b10 1 _ rfl
      have e7 := frozen_at b10 0
      have f7 := frozen_at b10 1
      go_simp
      clear c7 d7 e7 f7
      have q := set2 (.int .i64 x4) (.int .i64 y4) b10
      have hkW := hkW.from (Nat.le_refl _) (q.2.mono (G := From w.heap.size) (fun x _ e => by rw [show x = g10 from e]; exact l10))
      refine hK.out _ _ hkW (fun _ => ?_)
      clear hK K
      try simp only [List.setIfInBounds_toArray, List.set_cons_zero, List.set_cons_succ]
      generalize (World.setCell (World.setCell W20 ⟨g10, 0, none⟩ _) ⟨g10, 1, none⟩ _) = W21 at *
      have b7 := (q.2.block g7 u7 (fun e => n70 e)).trans b7
      have u7 := Nat.lt_of_lt_of_le u7 q.2.size
      have b8 := (q.2.block g8 u8 (fun e => n80 e)).trans b8
      have u8 := Nat.lt_of_lt_of_le u8 q.2.size
      have b9 := (q.2.block g9 u9 (fun e => n90 e)).trans b9
      have u9 := Nat.lt_of_lt_of_le u9 q.2.size
      have u10 := Nat.lt_of_lt_of_le u10 q.2.size
      have b10 := q.1
      clear q
      refine wpAnyH_done (by kernel_rfl) ?_ _
      go_wp2_with fail
      go_meet
      exact ⟨g7, g8, g9, g10, rfl, rfl, rfl, rfl, hkW, b7, b8, b9, b10⟩
    · rintro A W ⟨p7, p8, p9, p10, v17, v24, rfl, hkW, h17, h24, gs, h1, h2⟩
      obtain rfl := h17 rfl
      obtain rfl := h24 rfl
      obtain ⟨rfl, l7, u7, b7⟩ := h1 0 p7 rfl
      obtain ⟨rfl, l8, u8, b8⟩ := h1 1 p8 rfl
      obtain ⟨rfl, l9, u9, b9⟩ := h1 2 p9 rfl
      obtain ⟨rfl, l10, u10, b10⟩ := h1 3 p10 rfl
      have n78 := h2 0 1 _ _ rfl rfl (by omega)
      have n79 := h2 0 2 _ _ rfl rfl (by omega)
      have n70 := h2 0 3 _ _ rfl rfl (by omega)
      have n89 := h2 1 2 _ _ rfl rfl (by omega)
      have n80 := h2 1 3 _ _ rfl rfl (by omega)
      have n90 := h2 2 3 _ _ rfl rfl (by omega)
      clear h1 h2 h17 h24
      generalize gs 0 = g7 at *
      generalize gs 1 = g8 at *
      generalize gs 2 = g9 at *
      generalize gs 3 = g10 at *
      refine wpAnyH_ready (rs := [18]) (by kernel_rfl) (by simp) ?_
      refine AllReadyH.cons (o := _) rfl (fun K hK => ?_) AllReadyH.nil
      have c7 := cell_at b7 0 _ rfl
      have d7 := cell_at b7 1 _ rfl
      have e7 := frozen_at b7 0
      have f7 := frozen_at b7 1
      go_simp
      clear c7 d7 e7 f7
      have q := set2 (.int .i64 x1) (.int .i64 y1) b7
      have hkW := hkW.from (Nat.le_refl _) (q.2.mono (G := From w.heap.size) (fun x _ e => by rw [show x = g7 from e]; exact l7))
      refine hK.out _ _ hkW (fun _ => ?_)
      clear hK K
      try simp only [List.setIfInBounds_toArray, List.set_cons_zero, List.set_cons_succ]
      generalize (World.setCell (World.setCell W ⟨g7, 0, none⟩ _) ⟨g7, 1, none⟩ _) = W22 at *
      have b8 := (q.2.block g8 u8 (fun e => n78 (Eq.symm e))).trans b8
      have u8 := Nat.lt_of_lt_of_le u8 q.2.size
      have b9 := (q.2.block g9 u9 (fun e => n79 (Eq.symm e))).trans b9
      have u9 := Nat.lt_of_lt_of_le u9 q.2.size
      have b10 := (q.2.block g10 u10 (fun e => n70 (Eq.symm e))).trans b10
      have u10 := Nat.lt_of_lt_of_le u10 q.2.size
      have u7 := Nat.lt_of_lt_of_le u7 q.2.size
      have b7 := q.1
      clear q
      refine wpAnyH_ready (rs := [19]) (by kernel_rfl) (by simp) ?_
      refine AllReadyH.cons (o := _) rfl (fun K hK => ?_) AllReadyH.nil
      have c7 := cell_at b8 0 _ rfl
      have d7 := cell_at b8 1 _ rfl
      have e7 := frozen_at b8 0
      have f7 := frozen_at b8 1
      go_simp
      clear c7 d7 e7 f7
      have q := set2 (.int .i64 x2) (.int .i64 y2) b8
      have hkW := hkW.from (Nat.le_refl _) (q.2.mono (G := From w.heap.size) (fun x _ e => by rw [show x = g8 from e]; exact l8))
      refine hK.out _ _ hkW (fun _ => ?_)
      clear hK K
      try simp only [List.setIfInBounds_toArray, List.set_cons_zero, List.set_cons_succ]
      generalize (World.setCell (World.setCell W22 ⟨g8, 0, none⟩ _) ⟨g8, 1, none⟩ _) = W23 at *
      have b7 := (q.2.block g7 u7 (fun e => n78 e)).trans b7
      have u7 := Nat.lt_of_lt_of_le u7 q.2.size
      have b9 := (q.2.block g9 u9 (fun e => n89 (Eq.symm e))).trans b9
      have u9 := Nat.lt_of_lt_of_le u9 q.2.size
      have b10 := (q.2.block g10 u10 (fun e => n80 (Eq.symm e))).trans b10
      have u10 := Nat.lt_of_lt_of_le u10 q.2.size
      have u8 := Nat.lt_of_lt_of_le u8 q.2.size
      have b8 := q.1
      clear q
      refine wpAnyH_ready (rs := [20]) (by kernel_rfl) (by simp) ?_
      refine AllReadyH.cons (o := _) rfl (fun K hK => ?_) AllReadyH.nil
      have c7 := cell_at b9 0 _ rfl
      have d7 := cell_at b9 1 _ rfl
      have e7 := frozen_at b9 0
      have f7 := frozen_at b9 1
      go_simp
      clear c7 d7 e7 f7
      have q := set2 (.int .i64 x3) (.int .i64 y3) b9
      have hkW := hkW.from (Nat.le_refl _) (q.2.mono (G := From w.heap.size) (fun x _ e => by rw [show x = g9 from e]; exact l9))
      refine hK.out _ _ hkW (fun _ => ?_)
      clear hK K
      try simp only [List.setIfInBounds_toArray, List.set_cons_zero, List.set_cons_succ]
      generalize (World.setCell (World.setCell W23 ⟨g9, 0, none⟩ _) ⟨g9, 1, none⟩ _) = W24 at *
      have b7 := (q.2.block g7 u7 (fun e => n79 e)).trans b7
      have u7 := Nat.lt_of_lt_of_le u7 q.2.size
      have b8 := (q.2.block g8 u8 (fun e => n89 e)).trans b8
      have u8 := Nat.lt_of_lt_of_le u8 q.2.size
      have b10 := (q.2.block g10 u10 (fun e => n90 (Eq.symm e))).trans b10
      have u10 := Nat.lt_of_lt_of_le u10 q.2.size
      have u9 := Nat.lt_of_lt_of_le u9 q.2.size
      have b9 := q.1
      clear q
      refine wpAnyH_ready (rs := [21]) (by kernel_rfl) (by simp) ?_
      refine AllReadyH.cons (o := _) rfl (fun K hK => ?_) AllReadyH.nil
      have c7 := cell_at b10 0 _ rfl
      have d7 := cell_at b10 1 _ rfl
      have e7 := frozen_at b10 0
      have f7 := frozen_at b10 1
      go_simp
      clear c7 d7 e7 f7
      have q := set2 (.int .i64 x4) (.int .i64 y4) b10
      have hkW := hkW.from (Nat.le_refl _) (q.2.mono (G := From w.heap.size) (fun x _ e => by rw [show x = g10 from e]; exact l10))
      refine hK.out _ _ hkW (fun _ => ?_)
      clear hK K
      try simp only [List.setIfInBounds_toArray, List.set_cons_zero, List.set_cons_succ]
      generalize (World.setCell (World.setCell W24 ⟨g10, 0, none⟩ _) ⟨g10, 1, none⟩ _) = W25 at *
      have b7 := (q.2.block g7 u7 (fun e => n70 e)).trans b7
      have u7 := Nat.lt_of_lt_of_le u7 q.2.size
      have b8 := (q.2.block g8 u8 (fun e => n80 e)).trans b8
      have u8 := Nat.lt_of_lt_of_le u8 q.2.size
      have b9 := (q.2.block g9 u9 (fun e => n90 e)).trans b9
      have u9 := Nat.lt_of_lt_of_le u9 q.2.size
      have u10 := Nat.lt_of_lt_of_le u10 q.2.size
      have b10 := q.1
      clear q
      refine wpAnyH_done (by kernel_rfl) ?_ _
      go_wp2_with fail
      go_meet
      exact ⟨g7, g8, g9, g10, rfl, rfl, rfl, rfl, hkW, b7, b8, b9, b10⟩
  case rest =>
    obtain ⟨g7, g8, g9, g10, rfl, rfl, rfl, rfl, hkx, b7, b8, b9, b10⟩ := hcut
    have HKx := Lib.hid hkx
    clear hkx c0 c1 c2 c3 HNi HNk HP
    have HO1 := fun wx => Lib.hid (segm_on wx x1 y1 x2 y2 x4 y4 O1.out O2.out O4.out)
    have HO2 := fun wx => Lib.hid (segm_on wx x3 y3 x4 y4 x1 y1 O3.out O4.out O1.out)
    have HO3 := fun wx => Lib.hid (segm_on wx x3 y3 x4 y4 x2 y2 O3.out O4.out O2.out)
    have HO4 := fun wx => Lib.hid (segm_on wx x1 y1 x2 y2 x3 y3 O1.out O2.out O3.out)
    have HM := fun wx => Lib.hid (segm_meet wx x1 y1 x2 y2 x3 y3 x4 y4 O1.out O2.out O3.out O4.out)
    unfold spoil4 at HR
    generalize on (x1, y1) (x2, y2) (x4, y4) = oabd at HO1 HR
    generalize on (x3, y3) (x4, y4) (x1, y1) = ocda at HO2 HR
    generalize on (x3, y3) (x4, y4) (x2, y2) = ocdb at HO3 HR
    generalize on (x1, y1) (x2, y2) (x3, y3) = oabc at HO4 HR
    generalize meet (x1, y1) (x2, y2) (x3, y3) (x4, y4) = mabcd at HM HR
    clear O1 O2 O3 O4
    have c7a := cell_at b7 0 _ rfl
    have c7b := cell_at b7 1 _ rfl
    have c8a := cell_at b8 0 _ rfl
    have c8b := cell_at b8 1 _ rfl
    have c9a := cell_at b9 0 _ rfl
    have c9b := cell_at b9 1 _ rfl
    have c10a := cell_at b10 0 _ rfl
    have c10b := cell_at b10 1 _ rfl
    by_cases hx : x1 = x3
    · subst hx
      by_cases hy : y1 = y3
      · subst hy
        have HR := Lib.hid (show true = r by rw [← HR.out]; simp)
        go_wp2_with fail
        go_ret
        exact ⟨ret_bool HR.out, HKx.out⟩
      · have HR := Lib.hid (show (if decide (ni = k) = true then oabd || ocda else if decide (nk = i) = true then ocdb || oabc else mabcd) = r by rw [← HR.out]; simp [hy])
        by_cases h1 : ni = k
        · have hb1 : ((ni : Int) == (k : Int)) = true := by rw [h1]; exact beq_self_eq_true _
          have HR := Lib.hid (show (oabd || ocda) = r by rw [← HR.out]; simp [h1])
          clear h1
          go_wp2_with fail
          refine (HO1 _).out.mono ?_
          rintro e w1 ⟨rfl, hk'⟩
          clear c7a c7b c8a c8b c9a c9b c10a c10b
          have b7 := (hk'.block g7 (Array.getElem?_eq_some_iff.1 b7).1 (fun f => f)).trans b7
          have b8 := (hk'.block g8 (Array.getElem?_eq_some_iff.1 b8).1 (fun f => f)).trans b8
          have b9 := (hk'.block g9 (Array.getElem?_eq_some_iff.1 b9).1 (fun f => f)).trans b9
          have b10 := (hk'.block g10 (Array.getElem?_eq_some_iff.1 b10).1 (fun f => f)).trans b10
          have c7a := cell_at b7 0 _ rfl
          have c7b := cell_at b7 1 _ rfl
          have c8a := cell_at b8 0 _ rfl
          have c8b := cell_at b8 1 _ rfl
          have c9a := cell_at b9 0 _ rfl
          have c9b := cell_at b9 1 _ rfl
          have c10a := cell_at b10 0 _ rfl
          have c10b := cell_at b10 1 _ rfl
          have HKx := Lib.hid (HKx.out.then hk')
          clear hk'
          cases oabd with
          | true =>
            go_wp2_with fail
            go_ret
            exact ⟨ret_bool (by have h := HR.out; simpa using h), HKx.out⟩
          | false =>
            go_wp2_with fail
            refine (HO2 _).out.mono ?_
            rintro e w2 ⟨rfl, hk'⟩
            clear c7a c7b c8a c8b c9a c9b c10a c10b
            have b7 := (hk'.block g7 (Array.getElem?_eq_some_iff.1 b7).1 (fun f => f)).trans b7
            have b8 := (hk'.block g8 (Array.getElem?_eq_some_iff.1 b8).1 (fun f => f)).trans b8
            have b9 := (hk'.block g9 (Array.getElem?_eq_some_iff.1 b9).1 (fun f => f)).trans b9
            have b10 := (hk'.block g10 (Array.getElem?_eq_some_iff.1 b10).1 (fun f => f)).trans b10
            have c7a := cell_at b7 0 _ rfl
            have c7b := cell_at b7 1 _ rfl
            have c8a := cell_at b8 0 _ rfl
            have c8b := cell_at b8 1 _ rfl
            have c9a := cell_at b9 0 _ rfl
            have c9b := cell_at b9 1 _ rfl
            have c10a := cell_at b10 0 _ rfl
            have c10b := cell_at b10 1 _ rfl
            have HKx := Lib.hid (HKx.out.then hk')
            clear hk'
            go_wp2_with fail
            go_ret
            exact ⟨ret_bool (by have h := HR.out; simpa using h), HKx.out⟩
        · have hb1 : ((ni : Int) == (k : Int)) = false := beq_eq_false_iff_ne.2 (by omega)
          by_cases h2 : nk = i
          · have hb2 : ((nk : Int) == (i : Int)) = true := by rw [h2]; exact beq_self_eq_true _
            have HR := Lib.hid (show (ocdb || oabc) = r by rw [← HR.out]; simp [h1, h2])
            clear h1 h2
            go_wp2_with fail
            refine (HO3 _).out.mono ?_
            rintro e w3 ⟨rfl, hk'⟩
            clear c7a c7b c8a c8b c9a c9b c10a c10b
            have b7 := (hk'.block g7 (Array.getElem?_eq_some_iff.1 b7).1 (fun f => f)).trans b7
            have b8 := (hk'.block g8 (Array.getElem?_eq_some_iff.1 b8).1 (fun f => f)).trans b8
            have b9 := (hk'.block g9 (Array.getElem?_eq_some_iff.1 b9).1 (fun f => f)).trans b9
            have b10 := (hk'.block g10 (Array.getElem?_eq_some_iff.1 b10).1 (fun f => f)).trans b10
            have c7a := cell_at b7 0 _ rfl
            have c7b := cell_at b7 1 _ rfl
            have c8a := cell_at b8 0 _ rfl
            have c8b := cell_at b8 1 _ rfl
            have c9a := cell_at b9 0 _ rfl
            have c9b := cell_at b9 1 _ rfl
            have c10a := cell_at b10 0 _ rfl
            have c10b := cell_at b10 1 _ rfl
            have HKx := Lib.hid (HKx.out.then hk')
            clear hk'
            cases ocdb with
            | true =>
              go_wp2_with fail
              go_ret
              exact ⟨ret_bool (by have h := HR.out; simpa using h), HKx.out⟩
            | false =>
              go_wp2_with fail
              refine (HO4 _).out.mono ?_
              rintro e w4 ⟨rfl, hk'⟩
              clear c7a c7b c8a c8b c9a c9b c10a c10b
              have b7 := (hk'.block g7 (Array.getElem?_eq_some_iff.1 b7).1 (fun f => f)).trans b7
              have b8 := (hk'.block g8 (Array.getElem?_eq_some_iff.1 b8).1 (fun f => f)).trans b8
              have b9 := (hk'.block g9 (Array.getElem?_eq_some_iff.1 b9).1 (fun f => f)).trans b9
              have b10 := (hk'.block g10 (Array.getElem?_eq_some_iff.1 b10).1 (fun f => f)).trans b10
              have c7a := cell_at b7 0 _ rfl
              have c7b := cell_at b7 1 _ rfl
              have c8a := cell_at b8 0 _ rfl
              have c8b := cell_at b8 1 _ rfl
              have c9a := cell_at b9 0 _ rfl
              have c9b := cell_at b9 1 _ rfl
              have c10a := cell_at b10 0 _ rfl
              have c10b := cell_at b10 1 _ rfl
              have HKx := Lib.hid (HKx.out.then hk')
              clear hk'
              go_wp2_with fail
              go_ret
              exact ⟨ret_bool (by have h := HR.out; simpa using h), HKx.out⟩
          · have hb2 : ((nk : Int) == (i : Int)) = false := beq_eq_false_iff_ne.2 (by omega)
            have HR := Lib.hid (show mabcd = r by rw [← HR.out]; simp [h1, h2])
            clear h1 h2
            go_wp2_with fail
            refine (HM _).out.mono ?_
            rintro e w5 ⟨rfl, hk'⟩
            clear c7a c7b c8a c8b c9a c9b c10a c10b
            have b7 := (hk'.block g7 (Array.getElem?_eq_some_iff.1 b7).1 (fun f => f)).trans b7
            have b8 := (hk'.block g8 (Array.getElem?_eq_some_iff.1 b8).1 (fun f => f)).trans b8
            have b9 := (hk'.block g9 (Array.getElem?_eq_some_iff.1 b9).1 (fun f => f)).trans b9
            have b10 := (hk'.block g10 (Array.getElem?_eq_some_iff.1 b10).1 (fun f => f)).trans b10
            have c7a := cell_at b7 0 _ rfl
            have c7b := cell_at b7 1 _ rfl
            have c8a := cell_at b8 0 _ rfl
            have c8b := cell_at b8 1 _ rfl
            have c9a := cell_at b9 0 _ rfl
            have c9b := cell_at b9 1 _ rfl
            have c10a := cell_at b10 0 _ rfl
            have c10b := cell_at b10 1 _ rfl
            have HKx := Lib.hid (HKx.out.then hk')
            clear hk'
            go_wp2_with fail
            go_ret
            exact ⟨ret_bool (by have h := HR.out; simpa using h), HKx.out⟩
    · have HR := Lib.hid (show (if decide (ni = k) = true then oabd || ocda else if decide (nk = i) = true then ocdb || oabc else mabcd) = r by rw [← HR.out]; simp [hx])
      by_cases h1 : ni = k
      · have hb1 : ((ni : Int) == (k : Int)) = true := by rw [h1]; exact beq_self_eq_true _
        have HR := Lib.hid (show (oabd || ocda) = r by rw [← HR.out]; simp [h1])
        clear h1
        go_wp2_with fail
        refine (HO1 _).out.mono ?_
        rintro e w6 ⟨rfl, hk'⟩
        clear c7a c7b c8a c8b c9a c9b c10a c10b
        have b7 := (hk'.block g7 (Array.getElem?_eq_some_iff.1 b7).1 (fun f => f)).trans b7
        have b8 := (hk'.block g8 (Array.getElem?_eq_some_iff.1 b8).1 (fun f => f)).trans b8
        have b9 := (hk'.block g9 (Array.getElem?_eq_some_iff.1 b9).1 (fun f => f)).trans b9
        have b10 := (hk'.block g10 (Array.getElem?_eq_some_iff.1 b10).1 (fun f => f)).trans b10
        have c7a := cell_at b7 0 _ rfl
        have c7b := cell_at b7 1 _ rfl
        have c8a := cell_at b8 0 _ rfl
        have c8b := cell_at b8 1 _ rfl
        have c9a := cell_at b9 0 _ rfl
        have c9b := cell_at b9 1 _ rfl
        have c10a := cell_at b10 0 _ rfl
        have c10b := cell_at b10 1 _ rfl
        have HKx := Lib.hid (HKx.out.then hk')
        clear hk'
        cases oabd with
        | true =>
          go_wp2_with fail
          go_ret
          exact ⟨ret_bool (by have h := HR.out; simpa using h), HKx.out⟩
        | false =>
          go_wp2_with fail
          refine (HO2 _).out.mono ?_
          rintro e w7 ⟨rfl, hk'⟩
          clear c7a c7b c8a c8b c9a c9b c10a c10b
          have b7 := (hk'.block g7 (Array.getElem?_eq_some_iff.1 b7).1 (fun f => f)).trans b7
          have b8 := (hk'.block g8 (Array.getElem?_eq_some_iff.1 b8).1 (fun f => f)).trans b8
          have b9 := (hk'.block g9 (Array.getElem?_eq_some_iff.1 b9).1 (fun f => f)).trans b9
          have b10 := (hk'.block g10 (Array.getElem?_eq_some_iff.1 b10).1 (fun f => f)).trans b10
          have c7a := cell_at b7 0 _ rfl
          have c7b := cell_at b7 1 _ rfl
          have c8a := cell_at b8 0 _ rfl
          have c8b := cell_at b8 1 _ rfl
          have c9a := cell_at b9 0 _ rfl
          have c9b := cell_at b9 1 _ rfl
          have c10a := cell_at b10 0 _ rfl
          have c10b := cell_at b10 1 _ rfl
          have HKx := Lib.hid (HKx.out.then hk')
          clear hk'
          go_wp2_with fail
          go_ret
          exact ⟨ret_bool (by have h := HR.out; simpa using h), HKx.out⟩
      · have hb1 : ((ni : Int) == (k : Int)) = false := beq_eq_false_iff_ne.2 (by omega)
        by_cases h2 : nk = i
        · have hb2 : ((nk : Int) == (i : Int)) = true := by rw [h2]; exact beq_self_eq_true _
          have HR := Lib.hid (show (ocdb || oabc) = r by rw [← HR.out]; simp [h1, h2])
          clear h1 h2
          go_wp2_with fail
          refine (HO3 _).out.mono ?_
          rintro e w8 ⟨rfl, hk'⟩
          clear c7a c7b c8a c8b c9a c9b c10a c10b
          have b7 := (hk'.block g7 (Array.getElem?_eq_some_iff.1 b7).1 (fun f => f)).trans b7
          have b8 := (hk'.block g8 (Array.getElem?_eq_some_iff.1 b8).1 (fun f => f)).trans b8
          have b9 := (hk'.block g9 (Array.getElem?_eq_some_iff.1 b9).1 (fun f => f)).trans b9
          have b10 := (hk'.block g10 (Array.getElem?_eq_some_iff.1 b10).1 (fun f => f)).trans b10
          have c7a := cell_at b7 0 _ rfl
          have c7b := cell_at b7 1 _ rfl
          have c8a := cell_at b8 0 _ rfl
          have c8b := cell_at b8 1 _ rfl
          have c9a := cell_at b9 0 _ rfl
          have c9b := cell_at b9 1 _ rfl
          have c10a := cell_at b10 0 _ rfl
          have c10b := cell_at b10 1 _ rfl
          have HKx := Lib.hid (HKx.out.then hk')
          clear hk'
          cases ocdb with
          | true =>
            go_wp2_with fail
            go_ret
            exact ⟨ret_bool (by have h := HR.out; simpa using h), HKx.out⟩
          | false =>
            go_wp2_with fail
            refine (HO4 _).out.mono ?_
            rintro e w9 ⟨rfl, hk'⟩
            clear c7a c7b c8a c8b c9a c9b c10a c10b
            have b7 := (hk'.block g7 (Array.getElem?_eq_some_iff.1 b7).1 (fun f => f)).trans b7
            have b8 := (hk'.block g8 (Array.getElem?_eq_some_iff.1 b8).1 (fun f => f)).trans b8
            have b9 := (hk'.block g9 (Array.getElem?_eq_some_iff.1 b9).1 (fun f => f)).trans b9
            have b10 := (hk'.block g10 (Array.getElem?_eq_some_iff.1 b10).1 (fun f => f)).trans b10
            have c7a := cell_at b7 0 _ rfl
            have c7b := cell_at b7 1 _ rfl
            have c8a := cell_at b8 0 _ rfl
            have c8b := cell_at b8 1 _ rfl
            have c9a := cell_at b9 0 _ rfl
            have c9b := cell_at b9 1 _ rfl
            have c10a := cell_at b10 0 _ rfl
            have c10b := cell_at b10 1 _ rfl
            have HKx := Lib.hid (HKx.out.then hk')
            clear hk'
            go_wp2_with fail
            go_ret
            exact ⟨ret_bool (by have h := HR.out; simpa using h), HKx.out⟩
        · have hb2 : ((nk : Int) == (i : Int)) = false := beq_eq_false_iff_ne.2 (by omega)
          have HR := Lib.hid (show mabcd = r by rw [← HR.out]; simp [h1, h2])
          clear h1 h2
          go_wp2_with fail
          refine (HM _).out.mono ?_
          rintro e w10 ⟨rfl, hk'⟩
          clear c7a c7b c8a c8b c9a c9b c10a c10b
          have b7 := (hk'.block g7 (Array.getElem?_eq_some_iff.1 b7).1 (fun f => f)).trans b7
          have b8 := (hk'.block g8 (Array.getElem?_eq_some_iff.1 b8).1 (fun f => f)).trans b8
          have b9 := (hk'.block g9 (Array.getElem?_eq_some_iff.1 b9).1 (fun f => f)).trans b9
          have b10 := (hk'.block g10 (Array.getElem?_eq_some_iff.1 b10).1 (fun f => f)).trans b10
          have c7a := cell_at b7 0 _ rfl
          have c7b := cell_at b7 1 _ rfl
          have c8a := cell_at b8 0 _ rfl
          have c8b := cell_at b8 1 _ rfl
          have c9a := cell_at b9 0 _ rfl
          have c9b := cell_at b9 1 _ rfl
          have c10a := cell_at b10 0 _ rfl
          have c10b := cell_at b10 1 _ rfl
          have HKx := Lib.hid (HKx.out.then hk')
          clear hk'
          go_wp2_with fail
          go_ret
          exact ⟨ret_bool (by have h := HR.out; simpa using h), HKx.out⟩
end Go.Proofs.YthjiobmglebmdaaGreatDoor
