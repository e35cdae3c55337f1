/- DiskGood: the plain law. -/
import Derived.Test.YthjjckpgjfjokaaPgDskM
namespace Go.Proofs.Ythjjckpgjfjokaa
open Go.RowKit
namespace Gd

theorem getD_set_eq {α : Type} {l : List α} {i : Nat} {x z : α} (h : i < l.length) : (l.set i x).getD i z = x := by
  rw [List.getD_eq_getElem?_getD, List.getElem?_set_self h]; rfl
theorem getD_set_ne {α : Type} {l : List α} {i k : Nat} {x z : α} (h : i ≠ k) : (l.set i x).getD k z = l.getD k z := by
  rw [List.getD_eq_getElem?_getD, List.getElem?_set_ne h, ← List.getD_eq_getElem?_getD]

/-- a sector, half written -/
def half (now good : List (List Value)) (i : Nat) : List Value := (now.getD i []).take 32 ++ (good.getD i []).drop 32

theorem bite_other {now : List (List Value)} {keep : List Bool} {torn : Int} {k a i : Nat} {good : List (List Value)} (h : a ≠ i) : (Dsk.bite now keep torn k a good).getD i [] = good.getD i [] := by
  unfold Dsk.bite
  split
  · exact getD_set_ne h
  · split
    · exact getD_set_ne h
    · rfl
theorem bites_other {now : List (List Value)} {keep : List Bool} {torn : Int} {i : Nat} : ∀ (l : List Int) (k : Nat) (good : List (List Value)), (∀ a ∈ l, 0 ≤ a) → (i : Int) ∉ l → (Dsk.bites now keep torn l k good).getD i [] = good.getD i [] := by
  intro l
  induction l with
  | nil => intro k good _ _; rfl
  | cons a r ih =>
    intro k good hl hi
    simp only [List.mem_cons, not_or] at hi
    rw [Dsk.bites, ih _ _ (fun x hx => hl x (by simp [hx])) hi.2]
    exact bite_other (fun e => hi.1 (by have := hl a (by simp); omega))

/-- what a crash leaves of a sector -/
theorem bites_one {now : List (List Value)} {keep : List Bool} {torn : Int} {i : Nat} : ∀ (l : List Int) (k : Nat) (good : List (List Value)), (∀ a ∈ l, 0 ≤ a) → l.Nodup → i < good.length →
    (Dsk.bites now keep torn l k good).getD i [] = good.getD i [] ∨
    ((keep ≠ [] ∨ 0 ≤ torn) ∧ (Dsk.bites now keep torn l k good).getD i [] = now.getD i []) ∨
    ∃ j : Nat, l[j]? = some (i : Int) ∧ ((k + j : Nat) : Int) = torn ∧ (Dsk.bites now keep torn l k good).getD i [] = half now good i := by
  intro l
  induction l with
  | nil => intro k good _ _ _; exact .inl rfl
  | cons a r ih =>
    intro k good hl hn hi
    have ha := hl a (by simp)
    have hlr : ∀ x ∈ r, 0 ≤ x := fun x hx => hl x (by simp [hx])
    rw [List.nodup_cons] at hn
    rw [Dsk.bites]
    by_cases hai : (i : Int) = a
    · have hir : (i : Int) ∉ r := hai ▸ hn.1
      rw [bites_other _ _ _ hlr hir]
      have e : a.toNat = i := by omega
      rw [e]
      unfold Dsk.bite
      split
      · rename_i ht
        refine .inr (.inr ⟨0, by simp [hai], by simpa using ht, ?_⟩)
        rw [getD_set_eq hi]; rfl
      · split
        · rename_i hk
          exact .inr (.inl ⟨.inl hk.1, getD_set_eq hi⟩)
        · exact .inl rfl
    · have hne : a.toNat ≠ i := by omega
      have hb : (Dsk.bite now keep torn k a.toNat good).getD i [] = good.getD i [] := bite_other hne
      rcases ih (k + 1) (Dsk.bite now keep torn k a.toNat good) hlr hn.2 (by rw [Dsk.bite_length]; exact hi) with h | h | ⟨j, h1, h2, h3⟩
      · exact .inl (h.trans hb)
      · exact .inr (.inl h)
      · refine .inr (.inr ⟨j + 1, by simpa using h1, by rw [← h2]; congr 1; omega, ?_⟩)
        rw [h3, half, half, hb]

/-- the sector that is torn -/
def Torn (d : Dsk) (torn : Int) (i : Nat) : Prop := ∃ j : Nat, d.order[j]? = some (i : Int) ∧ (j : Int) = torn
theorem Torn.one {d : Dsk} {torn : Int} {i k : Nat} (h : Torn d torn i) (h' : Torn d torn k) : i = k := by
  obtain ⟨j, h1, h2⟩ := h
  obtain ⟨j', h1', h2'⟩ := h'
  have : j = j' := by omega
  subst this
  rw [h1] at h1'
  simp at h1'
  omega
theorem Torn.nonneg {d : Dsk} {torn : Int} {i : Nat} (h : Torn d torn i) : 0 ≤ torn := by obtain ⟨j, _, h⟩ := h; omega

/-- the law -/
theorem crash_sector {d : Dsk} (hw : d.Wf) (keep : List Bool) (torn : Int) {i : Nat} (hi : i < d.good.length) :
    (d.crash keep torn).now.getD i [] = d.good.getD i [] ∨ ((keep ≠ [] ∨ 0 ≤ torn) ∧ (d.crash keep torn).now.getD i [] = d.now.getD i []) ∨
    (Torn d torn i ∧ (d.crash keep torn).now.getD i [] = half d.now d.good i) := by
  rcases bites_one (now := d.now) (keep := keep) (torn := torn) d.order 0 d.good (fun a ha => (hw.order a ha).1) hw.once hi with h | h | ⟨j, h1, h2, h3⟩
  · exact .inl h
  · exact .inr (.inl h)
  · exact .inr (.inr ⟨⟨j, h1, by simpa using h2⟩, h3⟩)

/-- behind the first loop: j sectors are written -/
structure Inv1 (n j : Nat) (d : Dsk) (wl : List (List Value)) : Prop where
  len : d.good.length = n
  nl : d.now.length = n
  ops : d.ops = j
  cut : d.cut = false
  off : d.off = false
  wll : wl.length = j
  same : ∀ i, i < j → wl.getD i [] = d.now.getD i []
theorem Inv1.goes {n j : Nat} {d : Dsk} {wl : List (List Value)} (h : Inv1 n j d wl) : d.goes = true := by simp [Dsk.goes, h.cut, h.off]
theorem Inv1.start (n : Nat) : Inv1 n 0 (Dsk.fresh n) [] := ⟨by simp [Dsk.fresh], by simp [Dsk.fresh], rfl, rfl, rfl, rfl, fun i h => by omega⟩
theorem Inv1.step {n j : Nat} {d : Dsk} {wl : List (List Value)} (h : Inv1 n j d wl) (hj : j < n) (x : List Value) : Inv1 n (j + 1) (d.begun.put j x) (wl ++ [x]) := by
  refine ⟨h.len, by show (d.now.set j x).length = n; simp [h.nl], by show d.ops + 1 = _; rw [h.ops]; omega, h.cut, by show (!d.goes) = false; rw [h.goes]; rfl, by simp [h.wll], fun i hi => ?_⟩
  show (wl ++ [x]).getD i [] = (d.now.set j x).getD i []
  by_cases hij : j = i
  · subst hij
    rw [getD_set_eq (by rw [h.nl]; exact hj), List.getD_eq_getElem?_getD, List.getElem?_append_right (by rw [h.wll]; exact Nat.le_refl _), h.wll]
    simp
  · rw [getD_set_ne hij, List.getD_eq_getElem?_getD, List.getElem?_append_left (by rw [h.wll]; omega), ← List.getD_eq_getElem?_getD]
    exact h.same i (by omega)

/-- behind Sync, and in the second loop -/
structure Inv2 (n j : Nat) (was : List (List Value)) (d : Dsk) (nl : List (List Value)) : Prop where
  good : d.good = was
  wl : was.length = n
  now : d.now = nl
  nowl : nl.length = n
  ops : d.ops = (n : Int) + 1 + j
  cut : d.cut = false
  off : d.off = false
theorem Inv2.goes {n j : Nat} {was : List (List Value)} {d : Dsk} {nl : List (List Value)} (h : Inv2 n j was d nl) : d.goes = true := by simp [Dsk.goes, h.cut, h.off]
theorem list_eq {n : Nat} {a b : List (List Value)} (ha : a.length = n) (hb : b.length = n) (h : ∀ i, i < n → a.getD i [] = b.getD i []) : a = b := by
  apply List.ext_getElem (by rw [ha, hb])
  intro i h1 h2
  have := h i (by omega)
  rw [List.getD_eq_getElem?_getD, List.getD_eq_getElem?_getD, List.getElem?_eq_getElem h1, List.getElem?_eq_getElem h2] at this
  exact this
theorem Inv1.sync {n : Nat} {d : Dsk} {wl : List (List Value)} (h : Inv1 n n d wl) (hw : d.Wf) : Inv2 n 0 wl d.sync.1 wl := by
  have hg := h.goes
  have e : d.sync.1 = { d.begun with good := Dsk.settle d.now d.order d.good, order := [] } := by simp [Dsk.sync, hg]
  have hnow : d.now = wl := list_eq h.nl h.wll (fun i hi => (h.same i hi).symm)
  rw [e]
  refine ⟨?_, h.wll, hnow, h.wll, by show d.ops + 1 = _; rw [h.ops]; omega, h.cut, by show (!d.goes) = false; rw [hg]; rfl⟩
  show Dsk.settle d.now d.order d.good = wl
  rw [← hnow]
  refine list_eq (n := n) (by rw [Dsk.settle_length]; exact h.len) h.nl fun i hi => ?_
  rw [Dsk.settle_getD _ _ _ _ (fun k hk => (hw.order k hk).1) (by rw [h.len]; exact hi)]
  split
  · rfl
  · rename_i hn; exact (hw.calm i (by rw [h.len]; exact hi) hn).symm
theorem Inv2.step {n j : Nat} {was : List (List Value)} {d : Dsk} {nl : List (List Value)} (h : Inv2 n j was d nl) (a : Nat) (x : List Value) : Inv2 n (j + 1) was (d.begun.put a x) (nl.set a x) :=
  ⟨h.good, h.wl, by show d.now.set a x = _; rw [h.now], by simp [h.nowl], by show d.ops + 1 = _; rw [h.ops]; omega, h.cut, by show (!d.goes) = false; rw [h.goes]; rfl⟩
end Gd
end Go.Proofs.Ythjjckpgjfjokaa
