/- DiskPlays: the steps, as they come in. -/
import Derived.Test.YthjjckpgjfjokaaDoorPgCells
import Derived.Test.YthjjckpgjfjokaaDoorPgPlay1
namespace Go.Proofs.YthjjckpgjfjokaaDoor
open Go.ChangeShapes Go.WideShapes Go.Deep

theorem steps_of_row {H : Type} {enc : TypeId × Value → H} {W : World} {base : Nat} {held : Bool} {fuel : Nat} {a : Option Addr} {len cap : Nat} {x : DataW H × List MemPlace}
    (h : DataW.trod enc Tryd.prog W base (fun _ => true) held fuel 39 [.slice a len cap] = some x) : ∃ l : List DStep, StepsAt W (.slice a len cap) l (fun j => j < W.heap.size) := by
  cases a with
  | none =>
    rcases open_slice Tryd.underlying39 h with ⟨h0, _⟩ | ⟨a', len', cap', m, n, D, Pl, hcs, -⟩
    · simp only [List.cons.injEq, Value.slice.injEq, and_true, true_and] at h0
      obtain ⟨rfl, rfl⟩ := h0
      exact ⟨[], .inl ⟨rfl, none, 0, rfl⟩⟩
    · simp at hcs
  | some ad =>
    obtain ⟨hl, hm, hall⟩ := struct_cells Tryd.underlying39 Tryd.underlying46 (by kernel_rfl) (by kernel_rfl) h
    by_cases h0 : len = 0
    · subst h0
      exact ⟨[], .inl ⟨rfl, some ad, cap, rfl⟩⟩
    obtain ⟨b, o, sp⟩ := ad
    obtain rfl : sp = none := by
      obtain ⟨v, y, n, hc, _⟩ := hall 0 (by omega) 0 _ rfl
      exact addr_plain (by simpa using hc)
    have each : ∀ i, i < len → ∃ s : DStep, StepAt W b (o + i * 4) s (fun j => j < W.heap.size) := by
      intro i hi
      obtain ⟨v0, y0, n0, c0, t0⟩ := hall i hi 0 _ rfl
      obtain ⟨v1, y1, n1, c1, t1⟩ := hall i hi 1 _ rfl
      obtain ⟨v2, y2, n2, c2, t2⟩ := hall i hi 2 _ rfl
      obtain ⟨v3, y3, n3, c3, t3⟩ := hall i hi 3 _ rfl
      obtain ⟨k0, e0, -, w0⟩ := DataW.trod_int Tryd.underlying3 t0
      obtain ⟨k1, e1, -, w1⟩ := DataW.trod_int Tryd.underlying3 t1
      obtain ⟨k2, e2, -, w2⟩ := DataW.trod_int Tryd.underlying3 t2
      simp only [List.cons.injEq, and_true] at e0 e1 e2
      subst e0 e1 e2
      rw [addr_add] at c0 c1 c2 c3
      obtain ⟨ka, kl, kc, bs, rfl, hbl, hkm, hkr⟩ : ∃ (ka : Option Addr) (kl kc : Nat) (bs : List Bool), v3 = .slice ka kl kc ∧ bs.length = kl ∧ kl ≤ maxLen ∧ Reads W (.slice ka kl kc) (bs.map Value.bool) (fun _ => True) := by
        rcases open_bools Tryd.underlying44 Tryd.underlying4 (by kernel_rfl) t3 with ⟨hcs, _⟩ | ⟨x, l, c, B, hcs, _, hl, hm, _, hcell⟩
        · simp only [List.cons.injEq, and_true] at hcs
          exact ⟨none, 0, 0, [], hcs, rfl, Nat.zero_le _, .inl ⟨rfl, none, 0, rfl, fun _ => rfl⟩⟩
        · simp only [List.cons.injEq, and_true] at hcs
          refine ⟨some x, l, c, (List.range l).map B, hcs, by simp, by omega, cells_read (by simp) hl fun j hj => ⟨.bool (B j), ?_, hcell j (by omega)⟩⟩
          simp [hj]
      subst hbl
      refine ⟨⟨k0, k1, k2, bs⟩, ⟨c0, by simpa [Nat.add_assoc] using c1, by simpa [Nat.add_assoc] using c2, ⟨ka, kc, by simpa [Nat.add_assoc] using c3, ?_⟩, by unfold maxLen at hkm; exact hkm, wf_i64 w2, wf_i64 w1⟩⟩
      exact hkr.mono fun j hj _ => hj
    haveI : Inhabited DStep := ⟨⟨0, 0, 0, []⟩⟩
    obtain ⟨f, hf⟩ := choose_lt each
    refine ⟨(List.range len).map f, .inr ⟨b, o, cap, by simp, by simpa using hl, by simp only [List.length_map, List.length_range]; unfold maxLen at hm; omega, ?_, fun i s hs => ?_⟩⟩
    · exact cell_lt (hf 0 (by omega)).c0
    · have hi : i < len := by simpa using (List.getElem?_eq_some_iff.1 hs).1
      simp only [List.getElem?_map, List.getElem?_range hi, Option.map_some, Option.some.injEq] at hs
      subst hs
      exact hf i hi
end Go.Proofs.YthjjckpgjfjokaaDoor
