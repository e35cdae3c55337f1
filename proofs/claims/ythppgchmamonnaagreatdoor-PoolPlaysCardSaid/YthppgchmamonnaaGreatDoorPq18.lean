/- PoolPlays: the steps, as they come in. -/
import Derived.Test.YthppgchmamonnaaGreatDoorPq17
import Derived.Test.YthppgchmamonnaaGreatDoorChecked
namespace Go.Proofs.YthppgchmamonnaaGreatDoor
open Go.ChangeShapes Go.WideShapes Go.Deep
structure PStep where
  kind : Int
  page : Int
  n : Int
  yes : Bool
structure PStepAt (w : World) (b o : Nat) (s : PStep) : Prop where
  c0 : w.cell? ⟨b, o, none⟩ = some (.int .i64 s.kind)
  c1 : w.cell? ⟨b, o + 1, none⟩ = some (.int .i64 s.page)
  c2 : w.cell? ⟨b, o + 2, none⟩ = some (.int .i64 s.n)
  c3 : w.cell? ⟨b, o + 3, none⟩ = some (.bool s.yes)
  pIn : -9223372036854775808 ≤ s.page ∧ s.page ≤ 9223372036854775807
  nIn : -9223372036854775808 ≤ s.n ∧ s.n ≤ 9223372036854775807
def PStepsAt (w : World) (v : Value) (l : List PStep) (G : Nat → Prop) : Prop :=
  (l = [] ∧ ∃ a cap, v = .slice a 0 cap) ∨ ∃ b o cap, v = .slice (some ⟨b, o, none⟩) l.length cap ∧ l.length ≤ cap ∧ l.length ≤ 9223372036854775807 ∧ G b ∧ ∀ i s, l[i]? = some s → PStepAt w b (o + i * 4) s
theorem PStepAt.kept {w w' : World} {b o : Nat} {s : PStep} {F : Nat → Prop} (h : PStepAt w b o s) (hk : Kept F w w') (hb : ¬ F b) : PStepAt w' b o s :=
  ⟨(hk.cell (cell_lt h.c0) hb).trans h.c0, (hk.cell (cell_lt h.c1) hb).trans h.c1, (hk.cell (cell_lt h.c2) hb).trans h.c2, (hk.cell (cell_lt h.c3) hb).trans h.c3, h.pIn, h.nIn⟩
theorem PStepsAt.kept {w w' : World} {v : Value} {l : List PStep} {G F : Nat → Prop} (h : PStepsAt w v l G) (hk : Kept F w w') (hd : ∀ k, G k → ¬ F k) : PStepsAt w' v l G := by
  rcases h with h | ⟨b, o, cap, h1, h2, h3, h4, h5⟩
  · exact .inl h
  · exact .inr ⟨b, o, cap, h1, h2, h3, h4, fun i s hi => (h5 i s hi).kept hk (hd b h4)⟩
theorem PStepsAt.shape {w : World} {v : Value} {l : List PStep} {G : Nat → Prop} (h : PStepsAt w v l G) : l.length ≤ 9223372036854775807 ∧ ∃ a cap, v = .slice a l.length cap := by
  rcases h with ⟨rfl, a, cap, h⟩ | ⟨b, o, cap, h, -, hl, _⟩
  · exact ⟨by simp, a, cap, h⟩
  · exact ⟨hl, _, cap, h⟩
theorem PStepsAt.at {w : World} {a : Option Addr} {n cap : Nat} {l : List PStep} {G : Nat → Prop} (h : PStepsAt w (.slice a n cap) l G) {i : Nat} (hi : i < l.length) : ∃ b o, a = some ⟨b, o, none⟩ ∧ G b ∧ PStepAt w b (o + i * 4) l[i] := by
  rcases h with ⟨rfl, _⟩ | ⟨b, o, cap', h1, h2, h3, h4, h5⟩
  · simp at hi
  · simp only [Value.slice.injEq] at h1
    exact ⟨b, o, h1.1, h4, h5 i _ (by simp [hi])⟩
theorem steps_of_row {H : Type} {enc : TypeId × Value → H} {W : World} {base : Nat} {held : Bool} {fuel : Nat} {a : Option Addr} {len cap : Nat} {x : DataW H × List MemPlace}
    (h : DataW.trod enc Tryz.prog W base (fun _ => true) held fuel 54 [.slice a len cap] = some x) : ∃ l : List PStep, PStepsAt W (.slice a len cap) l (fun j => j < W.heap.size) := by
  cases a with
  | none =>
    rcases open_slice Tryz.underlying54 h with ⟨h0, _⟩ | ⟨a', len', cap', m, n, D, Pl, hcs, -⟩
    · simp only [List.cons.injEq, Value.slice.injEq, and_true, true_and] at h0
      obtain ⟨rfl, rfl⟩ := h0
      exact ⟨[], .inl ⟨rfl, none, 0, rfl⟩⟩
    · simp at hcs
  | some ad =>
    obtain ⟨hl, hm, hall⟩ := struct_cells Tryz.underlying54 Tryz.underlying66 (by kernel_rfl) (by kernel_rfl) h
    by_cases h0 : len = 0
    · subst h0
      exact ⟨[], .inl ⟨rfl, some ad, cap, rfl⟩⟩
    obtain ⟨b, o, sp⟩ := ad
    obtain rfl : sp = none := by
      obtain ⟨v, y, n, hc, _⟩ := hall 0 (by omega) 0 _ rfl
      exact addr_plain (by simpa using hc)
    have each : ∀ i, i < len → ∃ s : PStep, PStepAt W b (o + i * 4) s := by
      intro i hi
      obtain ⟨v0, y0, n0, c0, t0⟩ := hall i hi 0 _ rfl
      obtain ⟨v1, y1, n1, c1, t1⟩ := hall i hi 1 _ rfl
      obtain ⟨v2, y2, n2, c2, t2⟩ := hall i hi 2 _ rfl
      obtain ⟨v3, y3, n3, c3, t3⟩ := hall i hi 3 _ rfl
      obtain ⟨k0, e0, -, w0⟩ := DataW.trod_int Tryz.underlying3 t0
      obtain ⟨k1, e1, -, w1⟩ := DataW.trod_int Tryz.underlying3 t1
      obtain ⟨k2, e2, -, w2⟩ := DataW.trod_int Tryz.underlying3 t2
      obtain ⟨k3, e3, -⟩ := DataW.trod_bool Tryz.underlying4 t3
      simp only [List.cons.injEq, and_true] at e0 e1 e2 e3
      subst e0 e1 e2 e3
      rw [addr_add] at c0 c1 c2 c3
      exact ⟨⟨k0, k1, k2, k3⟩, ⟨c0, by simpa [Nat.add_assoc] using c1, by simpa [Nat.add_assoc] using c2, by simpa [Nat.add_assoc] using c3, wf_i64 w1, wf_i64 w2⟩⟩
    haveI : Inhabited PStep := ⟨⟨0, 0, 0, false⟩⟩
    obtain ⟨f, hf⟩ := choose_lt each
    refine ⟨(List.range len).map f, .inr ⟨b, o, cap, by simp, by simpa using hl, by simp only [List.length_map, List.length_range]; unfold maxLen at hm; omega, ?_, fun i s hs => ?_⟩⟩
    · exact cell_lt (hf 0 (by omega)).c0
    · have hi : i < len := by simpa using (List.getElem?_eq_some_iff.1 hs).1
      simp only [List.getElem?_map, List.getElem?_range hi, Option.map_some, Option.some.injEq] at hs
      subst hs
      exact hf i hi
end Go.Proofs.YthppgchmamonnaaGreatDoor
