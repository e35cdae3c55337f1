/- Answers and rows of strings as they come in. -/
import Derived.Test.YthjiobmglebmdaaGreatDoorPgScOpen
import Derived.Test.YthjiobmglebmdaaGreatDoorPgAnsws
namespace Go.Proofs.YthjiobmglebmdaaGreatDoor
open Go.ChangeShapes Go.WideShapes Go.Deep Go.RowKit
open Go.Proofs.YthjiobmglebmdaaGreatDoor.Geo Go.Proofs.YthjiobmglebmdaaGreatDoor.Txt

theorem cInts : Tryz.prog.cellsOf 22 = 1 := by kernel_rfl
theorem cNears : Tryz.prog.cellsOf 23 = 1 := by kernel_rfl
theorem cNear : Tryz.prog.cellsOf 73 = 4 := by kernel_rfl
theorem cDist : Tryz.prog.cellsOf 71 = 3 := by kernel_rfl
theorem cU64 : Tryz.prog.cellsOf 69 = 1 := by kernel_rfl
theorem cBool : Tryz.prog.cellsOf 4 = 1 := by kernel_rfl
theorem cAns : Tryz.prog.cellsOf 28 = 6 := by kernel_rfl
theorem ints_of_row {H : Type} {enc : TypeId × Value → H} {W : World} {base : Nat} {held : Bool} {fuel : Nat} {c : Value} {x : DataW H × List MemPlace}
    (h : DataW.trod enc Tryz.prog W base (fun _ => true) held fuel 22 [c] = some x) : ∃ l : List Int, Reads W c (l.map (.int .i64)) (fun _ => True) ∧ ∀ n ∈ l, InI64 n := by
  rcases open_ints Tryz.underlying22 Tryz.underlying3 (by kernel_rfl) h with ⟨hcs, _⟩ | ⟨a, len, cap, zs, hcs, _, hl, hm, hz, _, hcell, hwz⟩
  · simp only [List.cons.injEq, and_true] at hcs
    subst hcs
    exact ⟨[], .inl ⟨rfl, none, 0, rfl, fun _ => rfl⟩, by simp⟩
  · simp only [List.cons.injEq, and_true] at hcs
    subst hcs
    have hz' : zs.length = cap := by simpa using hz
    have hln : (zs.take len).length = len := by simp only [List.length_take]; omega
    refine ⟨zs.take len, cells_read (by rw [List.length_map, hln]) hl fun j hj => ⟨.int .i64 (zs.getD j 0), ?_, hcell j (by omega)⟩, fun n hn => wf_i64 (hwz n (List.mem_of_mem_take hn))⟩
    rw [List.getElem?_map, List.getElem?_take, if_pos hj, List.getElem?_eq_getElem (by omega), List.getD_eq_getElem?_getD, List.getElem?_eq_getElem (by omega)]; rfl
theorem u64_of {H : Type} {enc : TypeId × Value → H} {W : World} {base : Nat} {held : Bool} {fuel : Nat} {c : Value} {x : DataW H × List MemPlace}
    (h : DataW.trod enc Tryz.prog W base (fun _ => true) held fuel 69 [c] = some x) : ∃ k : Int, c = .int .u64 k ∧ InU64 k := by
  obtain ⟨k, e, -, w⟩ := DataW.trod_int Tryz.underlying69 h
  simp only [List.cons.injEq, and_true] at e
  simp only [Lit.wf, Bool.and_eq_true, decide_eq_true_eq] at w
  have h1 : (0 : Int) ≤ k := w.1
  have h2 : k ≤ 18446744073709551615 := w.2
  exact ⟨k, e, h1, by omega⟩
set_option maxRecDepth 100000 in
theorem near_cells {H : Type} {enc : TypeId × Value → H} {W : World} {base : Nat} {held : Bool} {fuel : Nat} {c0 c1 c2 c3 : Value} {x : DataW H × List MemPlace}
    (h : DataW.trod enc Tryz.prog W base (fun _ => true) held fuel 73 [c0, c1, c2, c3] = some x) : ∃ n : Nr, c0 = .int .i64 n.id ∧ c1 = .int .u64 n.hi ∧ c2 = .int .u64 n.lo ∧ c3 = .int .u64 n.den ∧ InI64 n.id ∧ InU64 n.hi ∧ InU64 n.lo ∧ InU64 n.den := by
  obtain ⟨xs, n, rfl, hx, hl, hxl, hall⟩ := DataW.trod_struct Tryz.underlying73 h
  have t0 : DataW.trod enc Tryz.prog W base (fun _ => true) held n 3 (([c0, c1, c2, c3].drop 0).take (Tryz.prog.cellsOf 3)) = xs[0]? := hall 0 _ rfl
  have t1 : DataW.trod enc Tryz.prog W base (fun _ => true) held n 71 (([c0, c1, c2, c3].drop 1).take (Tryz.prog.cellsOf 71)) = xs[1]? := hall 1 _ rfl
  have hl2 : xs.length = 2 := hxl
  rw [cInt, List.getElem?_eq_getElem (by omega)] at t0
  rw [cDist, List.getElem?_eq_getElem (by omega)] at t1
  obtain ⟨k, rfl, hk⟩ := int_of (c := c0) t0
  have t1' : DataW.trod enc Tryz.prog W base (fun _ => true) held n 71 [c1, c2, c3] = _ := t1
  obtain ⟨ys, n', rfl, hy, hyl, hyll, hall2⟩ := DataW.trod_struct Tryz.underlying71 t1'
  have s0 : DataW.trod enc Tryz.prog W base (fun _ => true) held n' 69 (([c1, c2, c3].drop 0).take (Tryz.prog.cellsOf 69)) = ys[0]? := hall2 0 _ rfl
  have s1 : DataW.trod enc Tryz.prog W base (fun _ => true) held n' 69 (([c1, c2, c3].drop 1).take (Tryz.prog.cellsOf 69)) = ys[1]? := hall2 1 _ rfl
  have s2 : DataW.trod enc Tryz.prog W base (fun _ => true) held n' 69 (([c1, c2, c3].drop 2).take (Tryz.prog.cellsOf 69)) = ys[2]? := hall2 2 _ rfl
  have hl3 : ys.length = 3 := hyll
  rw [cU64, List.getElem?_eq_getElem (by omega)] at s0 s1 s2
  obtain ⟨a, rfl, ha⟩ := u64_of (c := c1) s0
  obtain ⟨b, rfl, hb⟩ := u64_of (c := c2) s1
  obtain ⟨d, rfl, hd⟩ := u64_of (c := c3) s2
  exact ⟨⟨k, a, b, d⟩, rfl, rfl, rfl, rfl, hk, ha, hb, hd⟩
theorem nrCells_get : ∀ (l : List Nr) (i : Nat) (x : Value), (nrCells l)[i]? = some x → ∃ n, l[i / 4]? = some n ∧ ((i % 4 = 0 ∧ x = .int .i64 n.id) ∨ (i % 4 = 1 ∧ x = .int .u64 n.hi) ∨ (i % 4 = 2 ∧ x = .int .u64 n.lo) ∨ (i % 4 = 3 ∧ x = .int .u64 n.den))
  | [], i, x, h => by simp [nrCells] at h
  | p :: r, 0, x, h => by simp [nrCells] at h; exact ⟨p, rfl, .inl ⟨rfl, h.symm⟩⟩
  | p :: r, 1, x, h => by simp [nrCells] at h; exact ⟨p, rfl, .inr (.inl ⟨rfl, h.symm⟩)⟩
  | p :: r, 2, x, h => by simp [nrCells] at h; exact ⟨p, rfl, .inr (.inr (.inl ⟨rfl, h.symm⟩))⟩
  | p :: r, 3, x, h => by simp [nrCells] at h; exact ⟨p, rfl, .inr (.inr (.inr ⟨rfl, h.symm⟩))⟩
  | p :: r, i + 4, x, h => by
    obtain ⟨q, h1, h2⟩ := nrCells_get r i x (by simpa [nrCells] using h)
    refine ⟨q, by rw [show (i + 4) / 4 = i / 4 + 1 from by omega]; simpa using h1, ?_⟩
    rw [show (i + 4) % 4 = i % 4 from by omega]
    exact h2
theorem nears_of_row {H : Type} {enc : TypeId × Value → H} {W : World} {base : Nat} {held : Bool} {fuel : Nat} {c : Value} {x : DataW H × List MemPlace}
    (h : DataW.trod enc Tryz.prog W base (fun _ => true) held fuel 23 [c] = some x) : ∃ l : List Nr, ReadsK 4 W c l.length (nrCells l) (fun _ => True) ∧ (∀ n ∈ l, InI64 n.id) ∧ ∀ n ∈ l, InU64 n.hi ∧ InU64 n.lo ∧ InU64 n.den := by
  rcases open_slice Tryz.underlying23 h with ⟨h0, _⟩ | ⟨a, len, cap, m, n, D, Pl, hcs, -, hl, hm, hmm, -, hi⟩
  · simp only [List.cons.injEq, and_true] at h0
    subst h0
    exact ⟨[], ⟨rfl, .inl ⟨rfl, none, 0, rfl, fun _ => rfl⟩⟩, by simp, by simp⟩
  · simp only [List.cons.injEq, and_true] at hcs
    subst hcs
    have hmc : len ≤ m := by rw [hmm]; split <;> omega
    by_cases h0 : len = 0
    · subst h0
      exact ⟨[], ⟨rfl, .inl ⟨rfl, some a, cap, rfl, fun h => by cases h⟩⟩, by simp, by simp⟩
    have each : ∀ i, i < len → ∃ r : Nr, (W.cell? (a.add (i * 4)) = some (.int .i64 r.id) ∧ W.cell? (a.add (i * 4 + 1)) = some (.int .u64 r.hi) ∧ W.cell? (a.add (i * 4 + 2)) = some (.int .u64 r.lo) ∧ W.cell? (a.add (i * 4 + 3)) = some (.int .u64 r.den)) ∧ InI64 r.id ∧ InU64 r.hi ∧ InU64 r.lo ∧ InU64 r.den := by
      intro i hil
      obtain ⟨cs', hc, hr⟩ := hi i (by omega)
      rw [cNear] at hc
      obtain ⟨_, hcl, hat⟩ := World.cells?_some hc
      obtain ⟨c0, c1, c2, c3, rfl⟩ : ∃ c0 c1 c2 c3, cs' = [c0, c1, c2, c3] := by
        match cs', hcl with
        | [c0, c1, c2, c3], _ => exact ⟨c0, c1, c2, c3, rfl⟩
      obtain ⟨r, rfl, rfl, rfl, rfl, q⟩ := near_cells hr
      have a0 := hat 0 (by omega)
      have a1 := hat 1 (by omega)
      have a2 := hat 2 (by omega)
      have a3 := hat 3 (by omega)
      rw [add_add] at a0 a1 a2 a3
      exact ⟨r, ⟨a0, a1, a2, a3⟩, q⟩
    haveI : Inhabited Nr := ⟨⟨0, 0, 0, 0⟩⟩
    obtain ⟨f, hf⟩ := choose_below each
    obtain ⟨b, o, sp⟩ := a
    obtain rfl : sp = none := addr_plain (by simpa using (hf 0 (by omega)).1.1)
    have hin : ∀ n ∈ (List.range len).map f, InI64 n.id ∧ InU64 n.hi ∧ InU64 n.lo ∧ InU64 n.den := fun n hn => by
      rw [List.mem_map] at hn
      obtain ⟨i, hi, rfl⟩ := hn
      exact (hf i (List.mem_range.1 hi)).2
    refine ⟨(List.range len).map f, ⟨nrCells_length _, .inr ⟨b, o, cap, by simp, by simpa using hl, ?_, trivial, fun i x hx => ?_⟩⟩, fun n hn => (hin n hn).1, fun n hn => (hin n hn).2⟩
    · have := (hf 0 (by omega)).1.1
      rw [addr_add] at this
      exact cell_lt this
    · obtain ⟨r, hr, hc⟩ := nrCells_get _ i x hx
      have hil : i / 4 < len := by simpa using (List.getElem?_eq_some_iff.1 hr).1
      simp only [List.getElem?_map, List.getElem?_range hil, Option.map_some, Option.some.injEq] at hr
      subst hr
      obtain ⟨⟨a0, a1, a2, a3⟩, -⟩ := hf (i / 4) hil
      rw [addr_add] at a0 a1 a2 a3
      rcases hc with ⟨hm, rfl⟩ | ⟨hm, rfl⟩ | ⟨hm, rfl⟩ | ⟨hm, rfl⟩
      · rwa [show i / 4 * 4 = i by omega] at a0
      · rwa [show i / 4 * 4 + 1 = i by omega] at a1
      · rwa [show i / 4 * 4 + 2 = i by omega] at a2
      · rwa [show i / 4 * 4 + 3 = i by omega] at a3
set_option maxRecDepth 100000 in
theorem ans_open {H : Type} {enc : TypeId × Value → H} {W : World} {b0 : Nat} {v : Value} {d : DataW H} {p : List MemPlace} (hval : Value.okWide Tryz.prog W .any b0 28 v)
    (h : DataW.Trod enc Tryz.prog W 0 (fun _ => true) true 28 v d p) : ∃ (c : Int) (vi vn : Value) (k : Int) (u : Value) (has : Bool) (ids : List Int) (ns : List Nr) (l : List Pt), v = .agg #[.int .i64 c, vi, vn, .int .i64 k, u, .bool has] ∧ InI64 c ∧ Reads W vi (ids.map (.int .i64)) (fun _ => True) ∧ (∀ n ∈ ids, InI64 n) ∧
    ReadsK 4 W vn ns.length (nrCells ns) (fun _ => True) ∧ (∀ n ∈ ns, InI64 n.id) ∧ (∀ n ∈ ns, InU64 n.hi ∧ InU64 n.lo ∧ InU64 n.den) ∧ PtsAt W u l (fun _ => True) := by
  obtain ⟨cs, rfl, hs⟩ := okWide_struct Tryz.underlying28 hval
  obtain ⟨fuel, hf⟩ := h
  simp only [Value.cells] at hf
  rw [cAns] at hs
  obtain ⟨c0, c1, c2, c3, c4, c5, rfl⟩ : ∃ c0 c1 c2 c3 c4 c5, cs = #[c0, c1, c2, c3, c4, c5] := by
    obtain ⟨l⟩ := cs
    match l, hs with
    | [c0, c1, c2, c3, c4, c5], _ => exact ⟨c0, c1, c2, c3, c4, c5, rfl⟩
  obtain ⟨xs, n, rfl, hx, hl, hxl, hall⟩ := DataW.trod_struct Tryz.underlying28 hf
  have t0 : DataW.trod enc Tryz.prog W 0 (fun _ => true) true n 3 (([c0, c1, c2, c3, c4, c5].drop 0).take (Tryz.prog.cellsOf 3)) = xs[0]? := hall 0 _ rfl
  have t1 : DataW.trod enc Tryz.prog W 0 (fun _ => true) true n 22 (([c0, c1, c2, c3, c4, c5].drop 1).take (Tryz.prog.cellsOf 22)) = xs[1]? := hall 1 _ rfl
  have t2 : DataW.trod enc Tryz.prog W 0 (fun _ => true) true n 23 (([c0, c1, c2, c3, c4, c5].drop 2).take (Tryz.prog.cellsOf 23)) = xs[2]? := hall 2 _ rfl
  have t3 : DataW.trod enc Tryz.prog W 0 (fun _ => true) true n 26 (([c0, c1, c2, c3, c4, c5].drop 3).take (Tryz.prog.cellsOf 26)) = xs[3]? := hall 3 _ rfl
  have t4 : DataW.trod enc Tryz.prog W 0 (fun _ => true) true n 4 (([c0, c1, c2, c3, c4, c5].drop 5).take (Tryz.prog.cellsOf 4)) = xs[4]? := hall 4 _ rfl
  have hl2 : xs.length = 5 := hxl
  rw [cInt, List.getElem?_eq_getElem (by omega)] at t0
  rw [cInts, List.getElem?_eq_getElem (by omega)] at t1
  rw [cNears, List.getElem?_eq_getElem (by omega)] at t2
  rw [cObj, List.getElem?_eq_getElem (by omega)] at t3
  rw [cBool, List.getElem?_eq_getElem (by omega)] at t4
  obtain ⟨c, rfl, hc⟩ := int_of (c := c0) t0
  obtain ⟨ids, hi, hii⟩ := ints_of_row (c := c1) t1
  obtain ⟨ns, hn, hnn, hnu⟩ := nears_of_row (c := c2) t2
  obtain ⟨k, l, rfl, hp⟩ := obj_cells (c0 := c3) (c1 := c4) t3
  obtain ⟨b, e, -⟩ := DataW.trod_bool Tryz.underlying4 t4
  have e' : c5 = .bool b := by simpa using e
  subst e'
  exact ⟨c, c1, c2, k, c4, b, ids, ns, l, rfl, hc, hi, hii, hn, hnn, hnu, hp⟩
theorem strs_of_row {H : Type} {enc : TypeId × Value → H} {W : World} {base : Nat} {held : Bool} {fuel : Nat} {c : Value} {x : DataW H × List MemPlace}
    (h : DataW.trod enc Tryz.prog W base (fun _ => true) held fuel 29 [c] = some x) : ∃ l : List (List UInt8), Reads W c (l.map strV) (fun _ => True) := by
  rcases open_strings Tryz.underlying29 Tryz.underlying9 (by kernel_rfl) h with ⟨hcs, _⟩ | ⟨a, len, cap, ss, hcs, _, hl, hm, hz, _, hcell, -⟩
  · simp only [List.cons.injEq, and_true] at hcs
    subst hcs
    exact ⟨[], .inl ⟨rfl, none, 0, rfl, fun _ => rfl⟩⟩
  · simp only [List.cons.injEq, and_true] at hcs
    subst hcs
    have hz' : ss.length = cap := by simpa using hz
    have hln : (ss.take len).length = len := by simp only [List.length_take]; omega
    refine ⟨(ss.take len).map (fun s => s.data.toList), cells_read (by simp only [List.length_map, hln]) hl fun j hj => ⟨.string (ss.getD j ByteArray.empty), ?_, hcell j (by omega)⟩⟩
    rw [List.getElem?_map, List.getElem?_map, List.getElem?_take, if_pos hj, List.getElem?_eq_getElem (by omega), List.getD_eq_getElem?_getD, List.getElem?_eq_getElem (by omega)]
    simp [strV]
end Go.Proofs.YthjiobmglebmdaaGreatDoor
