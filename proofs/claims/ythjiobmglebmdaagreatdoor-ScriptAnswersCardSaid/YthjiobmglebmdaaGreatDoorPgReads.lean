/- Small words on rows that are read, and on rows that append made. No program in sight. -/
import Derived.Test.YthjiobmglebmdaaGreatDoorPgBase
namespace Go.Proofs.YthjiobmglebmdaaGreatDoor
open Go.RowKit

theorem Reads.cell {w : World} {a : Option Addr} {n c : Nat} {xs : List Value} {F : Nat → Prop} (h : Reads w (.slice a n c) xs F) {i : Nat} (hi : i < xs.length) :
    ∃ b o v, a = some ⟨b, o, none⟩ ∧ xs[i]? = some v ∧ w.cell? ⟨b, o + i, none⟩ = some v ∧ n = xs.length := by
  rcases h with ⟨hx, _⟩ | ⟨b, o, c', hv, _, _, _, hc⟩
  · simp [hx] at hi
  · simp at hv
    exact ⟨b, o, xs[i], hv.1, by simp [hi], hc i _ (by simp [hi]), hv.2.1⟩
theorem Reads.dropped {w : World} {b o l c : Nat} {xs : List Value} {F : Nat → Prop} (h : Reads w (.slice (some ⟨b, o, none⟩) l c) xs F) (m : Nat) (h0 : m < xs.length) : Reads w (.slice (some ⟨b, o + m, none⟩) (l - m) (c - m)) (xs.drop m) F := by
  rcases h with ⟨hx, _⟩ | ⟨b', o', cap, hv, hl, hb, hF, hc⟩
  · simp [hx] at h0
  · simp only [Value.slice.injEq, Option.some.injEq, Addr.mk.injEq, and_true] at hv
    obtain ⟨⟨rfl, rfl⟩, rfl, rfl⟩ := hv
    refine .inr ⟨b, o + m, c - m, by simp, by simp; omega, hb, hF, fun i x hi => ?_⟩
    rw [List.getElem?_drop] at hi
    rw [Nat.add_assoc]
    exact hc _ x hi
theorem Reads.some' {w : World} {a : Option Addr} {n c : Nat} {xs : List Value} {F : Nat → Prop} (h : Reads w (.slice a n c) xs F) (h0 : 0 < xs.length) : ∃ b o, a = some ⟨b, o, none⟩ ∧ n = xs.length ∧ xs.length ≤ c ∧ b < w.heap.size ∧ F b := by
  rcases h with ⟨hx, _⟩ | ⟨b, o, c', hv, hl, hb, hF, _⟩
  · simp [hx] at h0
  · simp only [Value.slice.injEq] at hv
    obtain ⟨rfl, rfl, rfl⟩ := hv
    exact ⟨b, o, rfl, rfl, hl, hb, hF⟩
theorem Reads.take {w : World} {b : Option Addr} {n c : Nat} {xs : List Value} {F : Nat → Prop} (h : Reads w (.slice b n c) xs F) (m : Nat) (hm : m ≤ xs.length) (h0 : 0 < xs.length) : Reads w (.slice b m c) (xs.take m) F := by
  rcases h with ⟨hx, _⟩ | ⟨b', o, cap, hv, hl, hb, hF, hc⟩
  · simp [hx] at h0
  · simp only [Value.slice.injEq] at hv
    obtain ⟨rfl, _, rfl⟩ := hv
    have e : (xs.take m).length = m := by simp only [List.length_take]; omega
    refine .inr ⟨b', o, c, by rw [e], by omega, hb, hF, fun i x hi => ?_⟩
    rw [List.getElem?_take] at hi
    split at hi
    · exact hc i x hi
    · cases hi
theorem own_fresh {w : World} {e : TypeId} {b : Option Addr} {l cap : Nat} {xs : List Value} {G : Nat → Prop} (h : Own w e (.slice b l cap) xs G) {n : Nat} (hG : ∀ k, G k → n ≤ k) (_ : True) (hp : 0 < xs.length) : ∃ g, b = some ⟨g, 0, none⟩ ∧ n ≤ g := by
  rcases h.shape with ⟨_, hz⟩ | ⟨g, c', cur, hx, hg, _⟩
  · simp [hz] at hp
  · simp only [Value.slice.injEq] at hx
    exact ⟨g, hx.1, hG g hg⟩
theorem own_just {w : World} {e : TypeId} {g l cap l' : Nat} {xs ys : List Value} {G : Nat → Prop} (h : Own w e (.slice (some ⟨g, 0, none⟩) l cap) xs G) (hl : l = l') (hx : xs = ys) : Own w e (.slice (some ⟨g, 0, none⟩) l' cap) ys (Just g) := by
  subst hl hx
  exact ⟨h.1, fun j hj => by simp [Value.ownBlock] at hj; exact hj.symm⟩
theorem set_size (w : World) (a : Addr) (v : Value) : (w.setCell a v).heap.size = w.heap.size := by simp [World.setCell]
theorem Own.empty_set (w : World) (a : Addr) (v : Value) (e : TypeId) : Own ((w.setCell a v).alloc (.cells #[] e)) e (.slice (some ⟨w.heap.size, 0, none⟩) 0 0) [] (From w.heap.size) := by
  have := Own.empty_new (w.setCell a v) e
  rwa [set_size] at this
theorem more_own {W w' : World} {n : Nat} (hn : W.heap.size = n) {e : TypeId} {b : Option Addr} {l l' cap : Nat} {xs ys : List Value} {G : Nat → Prop} {o : Obj} (h : Own w' e (.slice b l cap) xs G) (hk : Kept (fun k => (Value.slice (some ⟨n, 0, none⟩) 0 0).ownBlock = some k) (W.alloc o) w')
    (hG : ∀ k, G k → W.heap.size ≤ k) (hl : l = l') (hx : xs = ys) : Own w' e (.slice b l' cap) ys (From W.heap.size) ∧ Kept Nob W w' := by
  subst hn hl hx
  exact ⟨h.mono fun k _ hk => hG k hk, (Kept.alloc Nob W o).from (Nat.le_refl _) (hk.mono fun j _ hj => by simp [Value.ownBlock] at hj; show _ ≤ _; omega)⟩
theorem more_own1 {W w3 w' : World} {e : TypeId} {b : Option Addr} {l l' cap g cap' : Nat} {xs ys : List Value} {o : Obj} (h0 : Own w3 e (.slice b l cap) xs (From W.heap.size)) (hk0 : Kept Nob W w3)
    (h : Own w' e (.slice (some ⟨g, 0, none⟩) l' cap') ys (fun k => (Value.slice b l cap).ownBlock = some k ∨ (w3.alloc o).heap.size ≤ k)) (hk : Kept (fun k => (Value.slice b l cap).ownBlock = some k) (w3.alloc o) w') :
    Own w' e (.slice (some ⟨g, 0, none⟩) l' cap') ys (Just g) ∧ W.heap.size ≤ g ∧ Kept Nob W w' := by
  have hs := hk0.size
  refine ⟨own_just h rfl rfl, ?_, (hk0.then (Kept.alloc Nob w3 o)).from (Nat.le_refl _) (hk.mono fun j _ hj => h0.2 j hj)⟩
  rcases h.2 g rfl with hg | hg
  · exact h0.2 g hg
  · simp at hg; omega
end Go.Proofs.YthjiobmglebmdaaGreatDoor
