/- The law of both pools: what holds between steps. -/
import Derived.Test.YthppgchmamonnaaGreatDoorPq42
namespace Go.Proofs.YthppgchmamonnaaGreatDoor
open Go.RowKit
def ToldAt (w : World) (x y z : Value) (t : List (Nat × Nat)) (ns : List Int) (X : Nat → Prop) : Prop :=
  ∃ X1 X2 X3 : Nat → Prop, Own w 31 x (t.map fun p => .pointer (some ⟨p.1, 0, none⟩)) X1 ∧ Own w 102 y (t.map fun p => .pointer (some ⟨p.2, 0, none⟩)) X2 ∧ Own w 3 z (ns.map (Value.int .i64)) X3 ∧
    Disj X1 X2 ∧ Disj X1 X3 ∧ Disj X2 X3 ∧ (∀ k, (X1 k ∨ X2 k ∨ X3 k) → X k) ∧ ns.length = t.length
theorem ToldAt.nil (w : World) : ToldAt w (.slice none 0 0) (.slice none 0 0) (.slice none 0 0) [] [] Nob :=
  ⟨Nob, Nob, Nob, Own.nil _ _ _, Own.nil _ _ _, Own.nil _ _ _, fun _ f => f.elim, fun _ f => f.elim, fun _ f => f.elim, fun _ h => (h.elim id fun h => h.elim id id), rfl⟩
theorem ToldAt.kept {w w' : World} {x y z : Value} {t : List (Nat × Nat)} {ns : List Int} {X G : Nat → Prop} (h : ToldAt w x y z t ns X) (hk : Kept G w w') (hd : ∀ k, X k → ¬ G k) : ToldAt w' x y z t ns X := by
  obtain ⟨X1, X2, X3, h1, h2, h3, d1, d2, d3, hs, hl⟩ := h
  exact ⟨X1, X2, X3, h1.kept hk fun k hx => hd k (hs k (.inl hx)), h2.kept hk fun k hx => hd k (hs k (.inr (.inl hx))), h3.kept hk fun k hx => hd k (hs k (.inr (.inr hx))), d1, d2, d3, hs, hl⟩
def Lw (w0 w : World) (wb pages room sect n : Nat) : Prop :=
  ∃ (bd b mb md m : Nat) (t : List (Nat × Nat)) (ns : List Int) (x y z : Value) (Z Z' X : Nat → Prop), Duo w0 w bd b mb md m pages room sect n t Z Z' ∧
    w.heap[wb]? = some (.cells (wCells bd (.pointer (some ⟨b, 0, none⟩)) md (.pointer (some ⟨m, 0, none⟩)) x y z) 63 (0, 0)) ∧
    ToldAt w x y z t ns X ∧ (∀ k, (Z k ∨ Z' k) → k ≠ wb ∧ ¬ X k) ∧ ¬ X wb ∧ (∀ k, X k → w0.heap.size ≤ k ∧ k < w.heap.size) ∧ w0.heap.size ≤ wb ∧ t.length ≤ n
def RetLw (w0 w : World) (wb pages room sect n : Nat) (e : Ending) (w' : World) : Prop :=
  e = .returned (.bool true) ∧ Lw w0 w' wb pages room sect n ∧ Kept (From w0.heap.size) w w'
theorem Duo.old {w0 w : World} {bd b mb md m pages room sect n : Nat} {t : List (Nat × Nat)} {Z Z' : Nat → Prop} (h : Duo w0 w bd b mb md m pages room sect n t Z Z') : Kept Nob w0 w ∧ ∀ x, (Z x ∨ Z' x) → w0.heap.size ≤ x := by
  obtain ⟨d, P, Q, con, dcon, f, φ, K, K', D, -⟩ := h
  exact ⟨D.live.kept, D.old⟩
theorem RetDoes.lw {w0 w : World} {wb bd b mb md m pages room sect n : Nat} {t : List (Nat × Nat)} {ns : List Int} {x y z : Value} {Z Z' X : Nat → Prop} {e : Ending} {w' : World} (h : RetDoes w0 w bd b mb md m pages room sect n t Z Z' e w')
    (hw : w.heap[wb]? = some (.cells (wCells bd (.pointer (some ⟨b, 0, none⟩)) md (.pointer (some ⟨m, 0, none⟩)) x y z) 63 (0, 0))) (hD : Duo w0 w bd b mb md m pages room sect n t Z Z')
    (hr : ToldAt w x y z t ns X) (hZ : ∀ k, (Z k ∨ Z' k) → k ≠ wb ∧ ¬ X k) (hX : ¬ X wb) (ho : ∀ k, X k → w0.heap.size ≤ k ∧ k < w.heap.size) (hwb : w0.heap.size ≤ wb) (hn : t.length ≤ n) : RetLw w0 w wb pages room sect (n + 1) e w' := by
  obtain ⟨rfl, Z1, Z1', D, g1, g2, hk⟩ := h
  have hwl : wb < w.heap.size := (Array.getElem?_eq_some_iff.1 hw).1
  have hs := hk.size
  refine ⟨rfl, ⟨bd, b, mb, md, m, t, ns, x, y, z, Z1, Z1', X, D, (hk.block wb hwl (fun f => (hZ wb f).1 rfl)).trans hw, hr.kept hk (fun k hx f => (hZ k f).2 hx), fun k hk => ?_, hX, fun k hx => ⟨(ho k hx).1, by have := (ho k hx).2; omega⟩, hwb, by omega⟩, hk.mono fun x _ hx => hD.old.2 x hx⟩
  have : (Z k ∨ Z' k) ∨ w.heap.size ≤ k := by
    rcases hk with h | h
    · exact (g1 k h).imp .inl id
    · exact (g2 k h).imp .inr id
  rcases this with h | h
  · exact hZ k h
  · exact ⟨by omega, fun hx => by have := (ho k hx).2; omega⟩
end Go.Proofs.YthppgchmamonnaaGreatDoor
