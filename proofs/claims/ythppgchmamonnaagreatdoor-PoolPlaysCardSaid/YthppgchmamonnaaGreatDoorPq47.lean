/- The law of both pools: one more page that was told. -/
import Derived.Test.YthppgchmamonnaaGreatDoorPq45
namespace Go.Proofs.YthppgchmamonnaaGreatDoor
open Go.RowKit
theorem tPagesP : Plain Tryz.prog 60 31 (.pointer none) 8 := Plain.of Tryz.underlying60 (by kernel_rfl) rfl
theorem tPagesD : Plain Tryz.prog 61 102 (.pointer none) 8 := Plain.of Tryz.underlying61 (by kernel_rfl) rfl
theorem Own.pushed {w w4 : World} {o : Obj} {e : TypeId} {v u : Value} {xs : List Value} {X : Nat → Prop} {g c wb : Nat} {cs : Array Value} {t : TypeId} (hv : Own w e v xs X) (hX : ¬ X wb) (hb : w.heap[wb]? = some (.cells cs t (0, 0)))
    (ho : Own w4 e (.slice (some ⟨g, 0, none⟩) (xs.length + 1) c) (xs ++ [u]) (fun k => v.ownBlock = some k ∨ (w.alloc o).heap.size ≤ k)) (hk : Kept (fun k => v.ownBlock = some k) (w.alloc o) w4) (f : Nat) (s : Value) :
    Own (w4.setCell ⟨wb, f, none⟩ s) e (.slice (some ⟨g, 0, none⟩) (xs.length + 1) c) (xs ++ [u]) (fun k => X k ∨ (w.heap.size ≤ k ∧ k < (w4.setCell ⟨wb, f, none⟩ s).heap.size)) ∧ Kept (fun k => X k ∨ k = wb) w (w4.setCell ⟨wb, f, none⟩ s) ∧ w4.heap[wb]? = some (.cells cs t (0, 0)) := by
  have hwl : wb < w.heap.size := (Array.getElem?_eq_some_iff.1 hb).1
  have hvX : ∀ k, v.ownBlock = some k → X k := hv.2
  have hs := hk.size
  have hs1 : (w.alloc o).heap.size = w.heap.size + 1 := by simp
  have hkk : Kept (fun k => X k ∨ k = wb) w w4 := (Kept.alloc _ w o).trans hk fun x _ h => .inl (hvX x h)
  have k5 := kept1 w4 wb f s
  refine ⟨?_, hkk.trans k5 fun x _ e => .inr e, ?_⟩
  · have ho' := ho.mono (G := fun k => X k ∨ (w.heap.size ≤ k ∧ k < w4.heap.size)) fun k hk h => h.elim (fun h => .inl (hvX k h)) (fun h => .inr ⟨by omega, hk⟩)
    have := ho'.kept k5 (fun k h e => by
      have e : k = wb := e
      subst e
      rcases h with h | h
      · exact hX h
      · omega)
    exact this.mono fun k _ h => h.imp id fun h => ⟨h.1, by rw [set_size]; exact h.2⟩
  · exact (hk.block wb (by omega) (fun h => hX (hvX wb h))).trans (((Kept.alloc Nob w o).block wb hwl (fun f => f)).trans hb)
theorem ToldAt.push {w3 w5 w7 w9 : World} {x' y' z' : Value} {t : List (Nat × Nat)} {ns : List Int} {X1 X2 X3 X : Nat → Prop} {wb pg dg : Nat} {k : Int} (hl : ns.length = t.length) (d1 : Disj X1 X2) (d2 : Disj X1 X3) (d3 : Disj X2 X3) (hs : ∀ k, (X1 k ∨ X2 k ∨ X3 k) → X k) (hu : Under X w3.heap.size) (hX : ¬ X wb) (hwl : wb < w3.heap.size)
    (h1 : Own w5 31 x' ((t.map fun p => .pointer (some ⟨p.1, 0, none⟩)) ++ [.pointer (some ⟨pg, 0, none⟩)]) (fun k => X1 k ∨ (w3.heap.size ≤ k ∧ k < w5.heap.size))) (k1 : Kept (fun k => X1 k ∨ k = wb) w3 w5)
    (h2 : Own w7 102 y' ((t.map fun p => .pointer (some ⟨p.2, 0, none⟩)) ++ [.pointer (some ⟨dg, 0, none⟩)]) (fun k => X2 k ∨ (w5.heap.size ≤ k ∧ k < w7.heap.size))) (k2 : Kept (fun k => X2 k ∨ k = wb) w5 w7)
    (h3 : Own w9 3 z' ((ns.map (Value.int .i64)) ++ [.int .i64 k]) (fun k => X3 k ∨ (w7.heap.size ≤ k ∧ k < w9.heap.size))) (k3 : Kept (fun k => X3 k ∨ k = wb) w7 w9) :
    ToldAt w9 x' y' z' (t ++ [(pg, dg)]) (ns ++ [k]) (fun k => X k ∨ (w3.heap.size ≤ k ∧ k < w9.heap.size)) ∧ Kept (fun k => X k ∨ k = wb) w3 w9 := by
  have s1 := k1.size
  have s2 := k2.size
  have s3 := k3.size
  have u1 : ∀ k, X1 k → k < w3.heap.size := fun k h => hu k (hs k (.inl h))
  have u2 : ∀ k, X2 k → k < w3.heap.size := fun k h => hu k (hs k (.inr (.inl h)))
  have u3 : ∀ k, X3 k → k < w3.heap.size := fun k h => hu k (hs k (.inr (.inr h)))
  have q1 : Own w9 31 x' ((t.map fun p => .pointer (some ⟨p.1, 0, none⟩)) ++ [.pointer (some ⟨pg, 0, none⟩)]) (fun k => X1 k ∨ (w3.heap.size ≤ k ∧ k < w5.heap.size)) := by
    refine (h1.kept k2 (fun k h e => ?_)).kept k3 (fun k h e => ?_)
    · rcases h with h | h
      · rcases e with e | e
        · exact d1 k h e
        · exact hX (e ▸ hs k (.inl h))
      · rcases e with e | e
        · have := u2 k e; omega
        · omega
    · rcases h with h | h
      · rcases e with e | e
        · exact d2 k h e
        · exact hX (e ▸ hs k (.inl h))
      · rcases e with e | e
        · have := u3 k e; omega
        · omega
  have q2 : Own w9 102 y' ((t.map fun p => .pointer (some ⟨p.2, 0, none⟩)) ++ [.pointer (some ⟨dg, 0, none⟩)]) (fun k => X2 k ∨ (w5.heap.size ≤ k ∧ k < w7.heap.size)) := by
    refine h2.kept k3 (fun k h e => ?_)
    rcases h with h | h
    · rcases e with e | e
      · exact d3 k h e
      · exact hX (e ▸ hs k (.inr (.inl h)))
    · rcases e with e | e
      · have := u3 k e; omega
      · omega
  refine ⟨⟨_, _, _, by rw [List.map_append]; exact q1, by rw [List.map_append]; exact q2, by rw [List.map_append]; exact h3, fun k h e => ?_, fun k h e => ?_, fun k h e => ?_, fun k h => ?_, by simp [hl]⟩, ?_⟩
  · rcases h with h | h
    · rcases e with e | e
      · exact d1 k h e
      · have := u1 k h; omega
    · rcases e with e | e
      · have := u2 k e; omega
      · omega
  · rcases h with h | h
    · rcases e with e | e
      · exact d2 k h e
      · have := u1 k h; omega
    · rcases e with e | e
      · have := u3 k e; omega
      · omega
  · rcases h with h | h
    · rcases e with e | e
      · exact d3 k h e
      · have := u2 k h; omega
    · rcases e with e | e
      · have := u3 k e; omega
      · omega
  · rcases h with (h | h) | (h | h) | (h | h)
    · exact .inl (hs k (.inl h))
    · exact .inr ⟨h.1, by omega⟩
    · exact .inl (hs k (.inr (.inl h)))
    · exact .inr ⟨by omega, by omega⟩
    · exact .inl (hs k (.inr (.inr h)))
    · exact .inr ⟨by omega, h.2⟩
  · refine (k1.mono fun k _ h => h.imp (fun h => hs k (.inl h)) id).trans' ((k2.mono fun k _ h => h.imp (fun h => hs k (.inr (.inl h))) id).trans' (k3.mono fun k _ h => h.imp (fun h => hs k (.inr (.inr h))) id))
theorem Duo.away {w0 w w' : World} {bd b mb md m pages room sect n : Nat} {t : List (Nat × Nat)} {Z Z' G : Nat → Prop} (h : Duo w0 w bd b mb md m pages room sect n t Z Z') (hk : Kept G w w') (hG : ∀ x, G x → ¬ Z x ∧ ¬ Z' x ∧ w0.heap.size ≤ x) : Duo w0 w' bd b mb md m pages room sect n t Z Z' := by
  obtain ⟨d, P, Q, con, dcon, f, φ, K, K', D, r⟩ := h
  exact ⟨d, P, Q, con, dcon, f, φ, K, K', D.away hk hG, r⟩
theorem Duo.under {w0 w : World} {bd b mb md m pages room sect n : Nat} {t : List (Nat × Nat)} {Z Z' : Nat → Prop} (h : Duo w0 w bd b mb md m pages room sect n t Z Z') : ∀ x, (Z x ∨ Z' x) → x < w.heap.size := by
  obtain ⟨d, P, Q, con, dcon, f, φ, K, K', D, r⟩ := h
  exact fun x hx => hx.elim (D.under x) (D.under' x)
theorem Lw.nob {w0 w w' : World} {wb pages room sect n : Nat} (h : Lw w0 w wb pages room sect n) (hk : Kept Nob w w') : Lw w0 w' wb pages room sect n := by
  obtain ⟨bd, b, mb, md, m, t, ns, x, y, z, Z, Z', X, D, hb, hr, hZ, hX, ho, hwb, hn⟩ := h
  exact ⟨bd, b, mb, md, m, t, ns, x, y, z, Z, Z', X, D.away hk (fun _ f => f.elim), (hk.block wb (Array.getElem?_eq_some_iff.1 hb).1 (fun f => f)).trans hb, hr.kept hk (fun _ _ f => f), hZ, hX, fun k hk' => ⟨(ho k hk').1, Nat.lt_of_lt_of_le (ho k hk').2 hk.size⟩, hwb, hn⟩
end Go.Proofs.YthppgchmamonnaaGreatDoor
