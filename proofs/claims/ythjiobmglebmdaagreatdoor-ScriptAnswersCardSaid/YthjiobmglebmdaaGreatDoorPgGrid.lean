/- Slices of structs of numbers, as they come in. -/
import Derived.Test.YthjiobmglebmdaaGreatDoorPgCells
namespace Go.Proofs.YthjiobmglebmdaaGreatDoor
open Go.ChangeShapes Go.WideShapes Go.Deep

/-- a slice of structs of nf numbers each -/
def GridAt (w : World) (v : Value) (nf : Nat) (l : List (Nat → Int)) (G : Nat → Prop) : Prop :=
  ∃ a cap, v = .slice a l.length cap ∧ l.length ≤ 9223372036854775807 ∧ (l = [] ∨ ∃ b o, a = some ⟨b, o, none⟩ ∧ l.length ≤ cap ∧ b < w.heap.size ∧ G b ∧
    ∀ (i : Nat) (x : Nat → Int), l[i]? = some x → ∀ j, j < nf → w.cell? ⟨b, o + i * nf + j, none⟩ = some (.int .i64 (x j)) ∧ -9223372036854775808 ≤ x j ∧ x j ≤ 9223372036854775807)
theorem GridAt.kept {w w' : World} {v : Value} {nf : Nat} {l : List (Nat → Int)} {G F : Nat → Prop} (h : GridAt w v nf l G) (hk : Kept F w w') (hd : ∀ k, G k → ¬ F k) : GridAt w' v nf l G := by
  obtain ⟨a, cap, h1, h2, h3⟩ := h
  refine ⟨a, cap, h1, h2, h3.imp id ?_⟩
  rintro ⟨b, o, h4, h5, h6, h7, h8⟩
  exact ⟨b, o, h4, h5, Nat.lt_of_lt_of_le h6 hk.size, h7, fun i x hx j hj => ⟨(hk.cell (p := ⟨b, o + i * nf + j, none⟩) h6 (hd b h7)).trans (h8 i x hx j hj).1, (h8 i x hx j hj).2⟩⟩
theorem GridAt.row {w : World} {a : Option Addr} {n cap nf : Nat} {l : List (Nat → Int)} {G : Nat → Prop} (h : GridAt w (.slice a n cap) nf l G) {i : Nat} {x : Nat → Int} (hx : l[i]? = some x) :
    ∃ b o, a = some ⟨b, o, none⟩ ∧ n = l.length ∧ l.length ≤ cap ∧ b < w.heap.size ∧ G b ∧ ∀ j, j < nf → w.cell? ⟨b, o + i * nf + j, none⟩ = some (.int .i64 (x j)) ∧ -9223372036854775808 ≤ x j ∧ x j ≤ 9223372036854775807 := by
  obtain ⟨a', cap', h1, h2, h3⟩ := h
  simp only [Value.slice.injEq] at h1
  obtain ⟨rfl, rfl, rfl⟩ := h1
  rcases h3 with rfl | ⟨b, o, h4, h5, h6, h7, h8⟩
  · simp at hx
  · exact ⟨b, o, h4, rfl, h5, h6, h7, h8 i x hx⟩
theorem GridAt.shape {w : World} {v : Value} {nf : Nat} {l : List (Nat → Int)} {G : Nat → Prop} (h : GridAt w v nf l G) : ∃ a cap, v = .slice a l.length cap := by
  obtain ⟨a, cap, h1, -⟩ := h
  exact ⟨a, cap, h1⟩

theorem choose_below {α : Type} [Inhabited α] {p : Nat → α → Prop} {n : Nat} (h : ∀ i, i < n → ∃ x, p i x) : ∃ f : Nat → α, ∀ i, i < n → p i (f i) :=
  ⟨fun i => if hi : i < n then (h i hi).choose else default, fun i hi => by simp only [dif_pos hi]; exact (h i hi).choose_spec⟩

theorem grid_of_row {H : Type} {enc : TypeId × Value → H} {P : Program} {W : World} {base : Nat} {held : Bool} {fuel : Nat} {a : Option Addr} {len cap : Nat} {x : DataW H × List MemPlace} {t e : TypeId} {fs : Array Field}
    (ht : P.underlying t = some (.slice e)) (he : P.underlying e = some (.struct fs)) (hone : oneCellFields P fs = true) (hC : P.cellsOf e = fs.size) (hz : 0 < fs.size) (hf : ∀ (j : Nat) (f : Field), fs[j]? = some f → P.underlying f.type = some (.int .i64))
    (h : DataW.trod enc P W base (fun _ => true) held fuel t [.slice a len cap] = some x) : ∃ l : List (Nat → Int), GridAt W (.slice a len cap) fs.size l (fun j => j < W.heap.size) := by
  cases a with
  | none =>
    rcases open_slice ht h with ⟨h0, _⟩ | ⟨a', len', cap', m, n, D, Pl, hcs, -⟩
    · simp only [List.cons.injEq, Value.slice.injEq, and_true, true_and] at h0
      obtain ⟨rfl, rfl⟩ := h0
      exact ⟨[], none, 0, rfl, by simp, .inl rfl⟩
    · simp at hcs
  | some ad =>
    obtain ⟨hl, hm, hall⟩ := struct_cells ht he hone hC h
    have hml : len ≤ 9223372036854775807 := by unfold maxLen at hm; omega
    by_cases h0 : len = 0
    · subst h0
      exact ⟨[], some ad, cap, rfl, by simp, .inl rfl⟩
    obtain ⟨b, o, sp⟩ := ad
    obtain rfl : sp = none := by
      obtain ⟨v, y, n, hc, _⟩ := hall 0 (by omega) 0 (fs[0]'(by omega)) (Array.getElem?_eq_getElem (by omega))
      exact addr_plain (by simpa using hc)
    have each : ∀ i, i < len → ∃ s : Nat → Int, ∀ j, j < fs.size → W.cell? ⟨b, o + i * fs.size + j, none⟩ = some (.int .i64 (s j)) ∧ -9223372036854775808 ≤ s j ∧ s j ≤ 9223372036854775807 := by
      intro i hi
      refine choose_below (α := Int) (p := fun j s => W.cell? ⟨b, o + i * fs.size + j, none⟩ = some (.int .i64 s) ∧ -9223372036854775808 ≤ s ∧ s ≤ 9223372036854775807) fun j hj => ?_
      obtain ⟨v, y, n, c, t⟩ := hall i hi j (fs[j]'hj) (Array.getElem?_eq_getElem hj)
      obtain ⟨k, ek, -, wk⟩ := DataW.trod_int (hf j _ (Array.getElem?_eq_getElem hj)) t
      simp only [List.cons.injEq, and_true] at ek
      subst ek
      rw [addr_add] at c
      exact ⟨k, by rw [Nat.add_assoc]; exact c, wf_i64 wk⟩
    haveI : Inhabited (Nat → Int) := ⟨fun _ => 0⟩
    obtain ⟨f, hff⟩ := choose_below each
    refine ⟨(List.range len).map f, some ⟨b, o, none⟩, cap, by simp, by simpa using hml, .inr ⟨b, o, rfl, by simpa using hl, cell_lt (hff 0 (by omega) 0 (by omega)).1, cell_lt (hff 0 (by omega) 0 (by omega)).1, fun i s hs => ?_⟩⟩
    have hi : i < len := by simpa using (List.getElem?_eq_some_iff.1 hs).1
    simp only [List.getElem?_map, List.getElem?_range hi, Option.map_some, Option.some.injEq] at hs
    subst hs
    exact hff i hi
end Go.Proofs.YthjiobmglebmdaaGreatDoor
