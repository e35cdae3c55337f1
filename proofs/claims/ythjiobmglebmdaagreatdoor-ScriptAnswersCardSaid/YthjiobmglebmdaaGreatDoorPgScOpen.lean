/- Objects, queries and rows of them as they come in. -/
import Derived.Test.YthjiobmglebmdaaGreatDoorPgGrid
import Derived.Test.YthjiobmglebmdaaGreatDoorPgScParse
import Derived.SliceStrings
namespace Go.Proofs.YthjiobmglebmdaaGreatDoor
open Go.ChangeShapes Go.WideShapes Go.Deep Go.RowKit
open Go.Proofs.YthjiobmglebmdaaGreatDoor.Geo Go.Proofs.YthjiobmglebmdaaGreatDoor.Txt

theorem cInt : Tryz.prog.cellsOf 3 = 1 := by kernel_rfl
theorem cPts : Tryz.prog.cellsOf 24 = 1 := by kernel_rfl
theorem cBox : Tryz.prog.cellsOf 44 = 4 := by kernel_rfl
theorem cPt : Tryz.prog.cellsOf 42 = 2 := by kernel_rfl
theorem cObj : Tryz.prog.cellsOf 26 = 2 := by kernel_rfl
theorem cQry : Tryz.prog.cellsOf 46 = 6 := by kernel_rfl
theorem ptCells_get : ∀ (l : List Pt) (i : Nat) (x : Value), (ptCells l)[i]? = some x → ∃ p, l[i / 2]? = some p ∧ ((i % 2 = 0 ∧ x = .int .i64 p.1) ∨ (i % 2 = 1 ∧ x = .int .i64 p.2))
  | [], i, x, h => by simp [ptCells] at h
  | p :: r, 0, x, h => by simp [ptCells] at h; exact ⟨p, rfl, .inl ⟨rfl, h.symm⟩⟩
  | p :: r, 1, x, h => by simp [ptCells] at h; exact ⟨p, rfl, .inr ⟨rfl, h.symm⟩⟩
  | p :: r, i + 2, x, h => by
    obtain ⟨q, h1, h2⟩ := ptCells_get r i x (by simpa [ptCells] using h)
    refine ⟨q, by rw [show (i + 2) / 2 = i / 2 + 1 from by omega]; simpa using h1, ?_⟩
    rcases h2 with ⟨a, b⟩ | ⟨a, b⟩
    · exact .inl ⟨by omega, b⟩
    · exact .inr ⟨by omega, b⟩
theorem pts_of_grid {w : World} {a : Addr} {n cap : Nat} {l : List (Nat → Int)} {G : Nat → Prop} (h : GridAt w (.slice (some a) n cap) 2 l G) : PtsAt w (.slice (some a) n cap) (l.map fun x => (x 0, x 1)) (fun _ => True) := by
  obtain ⟨a', cap', h1, -, h2⟩ := h
  simp only [Value.slice.injEq] at h1
  obtain ⟨rfl, rfl, rfl⟩ := h1
  refine ⟨ptCells_length _, ?_⟩
  rcases h2 with rfl | ⟨b, o, h3, h4, h5, -, h6⟩
  · exact .inl ⟨rfl, _, _, rfl, fun h => by cases h⟩
  · simp only [Option.some.injEq] at h3
    subst h3
    refine .inr ⟨b, o, cap, by simp, by simpa using h4, h5, trivial, fun i x hx => ?_⟩
    obtain ⟨p, hp, hc⟩ := ptCells_get _ i x hx
    rw [List.getElem?_map, Option.map_eq_some_iff] at hp
    obtain ⟨y, hy, rfl⟩ := hp
    rcases hc with ⟨hm, rfl⟩ | ⟨hm, rfl⟩
    · have := (h6 _ y hy 0 (by omega)).1
      rw [show o + i / 2 * 2 + 0 = o + i from by omega] at this
      exact this
    · have := (h6 _ y hy 1 (by omega)).1
      rw [show o + i / 2 * 2 + 1 = o + i from by omega] at this
      exact this
theorem pts_of_row {H : Type} {enc : TypeId × Value → H} {W : World} {base : Nat} {held : Bool} {fuel : Nat} {c : Value} {x : DataW H × List MemPlace}
    (h : DataW.trod enc Tryz.prog W base (fun _ => true) held fuel 24 [c] = some x) : ∃ l, PtsAt W c l (fun _ => True) := by
  have h0 := h
  rcases open_slice Tryz.underlying24 h with ⟨h0, _⟩ | ⟨a', len', cap', m, n, D, Pl, hcs, -⟩
  · simp only [List.cons.injEq, and_true] at h0
    subst h0
    exact ⟨[], PtsAt.nils _ _⟩
  · simp only [List.cons.injEq, and_true] at hcs
    subst hcs
    obtain ⟨l, hl⟩ := grid_of_row (P := Tryz.prog) Tryz.underlying24 Tryz.underlying42 (by kernel_rfl) (by kernel_rfl) (by decide) (fun j f h => by
      match j, h with
      | 0, h => simp at h; subst h; exact Tryz.underlying3
      | 1, h => simp at h; subst h; exact Tryz.underlying3
      | _ + 2, h => simp at h) h0
    exact ⟨_, pts_of_grid hl⟩
theorem int_of {H : Type} {enc : TypeId × Value → H} {W : World} {base : Nat} {held : Bool} {fuel : Nat} {c : Value} {x : DataW H × List MemPlace}
    (h : DataW.trod enc Tryz.prog W base (fun _ => true) held fuel 3 [c] = some x) : ∃ k : Int, c = .int .i64 k ∧ -9223372036854775808 ≤ k ∧ k ≤ 9223372036854775807 := by
  obtain ⟨k, e, -, w⟩ := DataW.trod_int Tryz.underlying3 h
  simp only [List.cons.injEq, and_true] at e
  exact ⟨k, e, wf_i64 w⟩
set_option maxRecDepth 100000 in
theorem obj_cells {H : Type} {enc : TypeId × Value → H} {W : World} {base : Nat} {held : Bool} {fuel : Nat} {c0 c1 : Value} {x : DataW H × List MemPlace}
    (h : DataW.trod enc Tryz.prog W base (fun _ => true) held fuel 26 [c0, c1] = some x) : ∃ k l, c0 = .int .i64 k ∧ PtsAt W c1 l (fun _ => True) := by
  obtain ⟨xs, n, rfl, hx, hl, hxl, hall⟩ := DataW.trod_struct Tryz.underlying26 h
  have t0 : DataW.trod enc Tryz.prog W base (fun _ => true) held n 3 (([c0, c1].drop 0).take (Tryz.prog.cellsOf 3)) = xs[0]? := hall 0 _ rfl
  have t1 : DataW.trod enc Tryz.prog W base (fun _ => true) held n 24 (([c0, c1].drop 1).take (Tryz.prog.cellsOf 24)) = xs[1]? := hall 1 _ rfl
  have hl2 : xs.length = 2 := hxl
  rw [cInt, List.getElem?_eq_getElem (by omega)] at t0
  rw [cPts, List.getElem?_eq_getElem (by omega)] at t1
  obtain ⟨k, e, -⟩ := int_of (c := c0) t0
  obtain ⟨l, hp⟩ := pts_of_row (c := c1) t1
  exact ⟨k, l, e, hp⟩
set_option maxRecDepth 100000 in
theorem obj_open {H : Type} {enc : TypeId × Value → H} {W : World} {b0 : Nat} {v : Value} {d : DataW H} {p : List MemPlace} (hval : Value.okWide Tryz.prog W .any b0 26 v)
    (h : DataW.Trod enc Tryz.prog W 0 (fun _ => true) true 26 v d p) : ∃ k u l, v = .agg #[.int .i64 k, u] ∧ PtsAt W u l (fun _ => True) := by
  obtain ⟨cs, rfl, hs⟩ := okWide_struct Tryz.underlying26 hval
  obtain ⟨fuel, hf⟩ := h
  simp only [Value.cells] at hf
  rw [cObj] at hs
  obtain ⟨c0, c1, rfl⟩ : ∃ c0 c1, cs = #[c0, c1] := by
    obtain ⟨l⟩ := cs
    match l, hs with
    | [c0, c1], _ => exact ⟨c0, c1, rfl⟩
  obtain ⟨k, l, rfl, hp⟩ := obj_cells hf
  exact ⟨k, c1, l, rfl, hp⟩
set_option maxRecDepth 100000 in
theorem pt_cells {H : Type} {enc : TypeId × Value → H} {W : World} {base : Nat} {held : Bool} {fuel : Nat} {c0 c1 : Value} {x : DataW H × List MemPlace}
    (h : DataW.trod enc Tryz.prog W base (fun _ => true) held fuel 42 [c0, c1] = some x) : ∃ a b : Int, c0 = .int .i64 a ∧ c1 = .int .i64 b := by
  obtain ⟨xs, n, rfl, hx, hl, hxl, hall⟩ := DataW.trod_struct Tryz.underlying42 h
  have t0 : DataW.trod enc Tryz.prog W base (fun _ => true) held n 3 (([c0, c1].drop 0).take (Tryz.prog.cellsOf 3)) = xs[0]? := hall 0 _ rfl
  have t1 : DataW.trod enc Tryz.prog W base (fun _ => true) held n 3 (([c0, c1].drop 1).take (Tryz.prog.cellsOf 3)) = xs[1]? := hall 1 _ rfl
  have hl2 : xs.length = 2 := hxl
  rw [cInt, List.getElem?_eq_getElem (by omega)] at t0 t1
  obtain ⟨k, e, -⟩ := int_of (c := c0) t0
  obtain ⟨m, e2, -⟩ := int_of (c := c1) t1
  exact ⟨k, m, e, e2⟩
set_option maxRecDepth 100000 in
theorem qry_open {H : Type} {enc : TypeId × Value → H} {W : World} {b0 : Nat} {v : Value} {d : DataW H} {p : List MemPlace} (hval : Value.okWide Tryz.prog W .any b0 46 v)
    (h : DataW.Trod enc Tryz.prog W 0 (fun _ => true) true 46 v d p) : ∃ k x1 y1 x2 y2 u l, v = .agg #[.int .i64 k, .int .i64 x1, .int .i64 y1, .int .i64 x2, .int .i64 y2, u] ∧ PtsAt W u l (fun _ => True) := by
  obtain ⟨cs, rfl, hs⟩ := okWide_struct Tryz.underlying46 hval
  obtain ⟨fuel, hf⟩ := h
  simp only [Value.cells] at hf
  rw [cQry] at hs
  obtain ⟨c0, c1, c2, c3, c4, c5, rfl⟩ : ∃ c0 c1 c2 c3 c4 c5, cs = #[c0, c1, c2, c3, c4, c5] := by
    obtain ⟨l⟩ := cs
    match l, hs with
    | [c0, c1, c2, c3, c4, c5], _ => exact ⟨c0, c1, c2, c3, c4, c5, rfl⟩
  obtain ⟨xs, n, rfl, hx, hl, hxl, hall⟩ := DataW.trod_struct Tryz.underlying46 hf
  have t0 : DataW.trod enc Tryz.prog W 0 (fun _ => true) true n 3 (([c0, c1, c2, c3, c4, c5].drop 0).take (Tryz.prog.cellsOf 3)) = xs[0]? := hall 0 _ rfl
  have t1 : DataW.trod enc Tryz.prog W 0 (fun _ => true) true n 44 (([c0, c1, c2, c3, c4, c5].drop 1).take (Tryz.prog.cellsOf 44)) = xs[1]? := hall 1 _ rfl
  have t2 : DataW.trod enc Tryz.prog W 0 (fun _ => true) true n 24 (([c0, c1, c2, c3, c4, c5].drop 5).take (Tryz.prog.cellsOf 24)) = xs[2]? := hall 2 _ rfl
  have hl2 : xs.length = 3 := hxl
  rw [cInt, List.getElem?_eq_getElem (by omega)] at t0
  rw [cBox, List.getElem?_eq_getElem (by omega)] at t1
  rw [cPts, List.getElem?_eq_getElem (by omega)] at t2
  obtain ⟨k, rfl, -⟩ := int_of (c := c0) t0
  obtain ⟨l, hp⟩ := pts_of_row (c := c5) t2
  have t1' : DataW.trod enc Tryz.prog W 0 (fun _ => true) true n 44 [c1, c2, c3, c4] = _ := t1
  obtain ⟨ys, n', rfl, hy, hyl, hyll, hall2⟩ := DataW.trod_struct Tryz.underlying44 t1'
  have s0 : DataW.trod enc Tryz.prog W 0 (fun _ => true) true n' 42 (([c1, c2, c3, c4].drop 0).take (Tryz.prog.cellsOf 42)) = ys[0]? := hall2 0 _ rfl
  have s1 : DataW.trod enc Tryz.prog W 0 (fun _ => true) true n' 42 (([c1, c2, c3, c4].drop 2).take (Tryz.prog.cellsOf 42)) = ys[1]? := hall2 1 _ rfl
  have hl3 : ys.length = 2 := hyll
  rw [cPt, List.getElem?_eq_getElem (by omega)] at s0 s1
  obtain ⟨x1, y1, rfl, rfl⟩ := pt_cells (c0 := c1) (c1 := c2) s0
  obtain ⟨x2, y2, rfl, rfl⟩ := pt_cells (c0 := c3) (c1 := c4) s1
  exact ⟨k, x1, y1, x2, y2, c5, l, rfl, hp⟩
end Go.Proofs.YthjiobmglebmdaaGreatDoor
