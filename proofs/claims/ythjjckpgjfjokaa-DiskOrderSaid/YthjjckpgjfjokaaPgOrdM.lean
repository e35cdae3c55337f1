/- DiskOrder: the plain law and the walk. -/
import Derived.Test.YthjjckpgjfjokaaPgAwake10
namespace Go.Proofs.Ythjjckpgjfjokaa
open Go.RowKit

theorem tBools : Plain Try.prog 34 4 (.bool false) 1 := Plain.of Try.underlying34 (by kernel_rfl) rfl

/-- a row that is written by a walk ends with nobody in the way: what has turned lies from w on -/
def NewOnly (w : World) (F : Nat → Prop) : Prop := ∀ k, F k → w.heap.size ≤ k

namespace Ord
/-- order of first writes: n-1, n-2, .. -/
def downs (n j : Nat) : List Int := (List.range j).map fun (i : Nat) => (n : Int) - 1 - (i : Int)
theorem downs_succ (n j : Nat) : downs n (j + 1) = downs n j ++ [(n : Int) - 1 - j] := by simp [downs, List.range_succ]
theorem mem_downs {n j : Nat} {k : Int} : k ∈ downs n j ↔ ∃ i : Nat, i < j ∧ (n : Int) - 1 - i = k := by simp [downs]

/-- what the first loop keeps -/
structure Inv1 (n j : Nat) (d : Dsk) (wl : List (List Value)) : Prop where
  good : d.good = List.replicate n Dsk.zeroSector
  order : d.order = downs n j
  ops : d.ops = j
  cut : d.cut = false
  off : d.off = false
  nl : d.now.length = n
  wll : wl.length = n
  same : ∀ i, i < n → n - 1 - i < j → wl.getD i [] = d.now.getD i []

theorem getD_set_eq {α : Type} {l : List α} {i : Nat} {x z : α} (h : i < l.length) : (l.set i x).getD i z = x := by
  rw [List.getD_eq_getElem?_getD, List.getElem?_set_self h]; rfl
theorem getD_set_ne {α : Type} {l : List α} {i k : Nat} {x z : α} (h : i ≠ k) : (l.set i x).getD k z = l.getD k z := by
  rw [List.getD_eq_getElem?_getD, List.getElem?_set_ne h, ← List.getD_eq_getElem?_getD]

theorem Inv1.goes {n j : Nat} {d : Dsk} {wl : List (List Value)} (h : Inv1 n j d wl) : d.goes = true := by simp [Dsk.goes, h.cut, h.off]
theorem Inv1.start (n : Nat) : Inv1 n 0 (Dsk.fresh n) (List.replicate n []) :=
  ⟨rfl, rfl, rfl, rfl, rfl, by simp [Dsk.fresh], by simp, fun i _ h => by omega⟩
theorem Inv1.step {n j : Nat} {d : Dsk} {wl : List (List Value)} (h : Inv1 n j d wl) {a : Nat} (ha : (n : Int) - 1 - j = a) (x : List Value) : Inv1 n (j + 1) (d.begun.put a x) (wl.set a x) := by
  have hg := h.goes
  have hnm : ¬ ((a : Int) ∈ d.order) := by
    rw [h.order, mem_downs]
    rintro ⟨i, hi, he⟩
    omega
  refine ⟨h.good, ?_, ?_, ?_, ?_, ?_, ?_, ?_⟩
  · have h' : ¬ ((a : Int) ∈ d.begun.order) := hnm
    simp only [Dsk.put, if_neg h']
    show d.order ++ [(a : Int)] = _
    rw [h.order, downs_succ, ha]
  · show d.ops + 1 = _
    rw [h.ops]; omega
  · exact h.cut
  · show (!d.goes) = false
    rw [hg]; rfl
  · show (d.now.set a x).length = n
    simp [h.nl]
  · simp [h.wll]
  · intro i hi hij
    show (wl.set a x).getD i [] = (d.now.set a x).getD i []
    by_cases hia : a = i
    · subst hia
      rw [getD_set_eq (by rw [h.wll]; exact hi), getD_set_eq (by rw [h.nl]; exact hi)]
    · rw [getD_set_ne hia, getD_set_ne hia]
      exact h.same i hi (by omega)

/-- what the second loop keeps -/
structure Inv2 (n j : Nat) (d : Dsk) (wl : List (List Value)) : Prop where
  good : d.good = List.replicate n Dsk.zeroSector
  order : d.order = downs n n
  ops : d.ops = (n : Int) + j
  cut : d.cut = false
  off : d.off = false
  nl : d.now.length = n
  same : wl = d.now
theorem Inv2.goes {n j : Nat} {d : Dsk} {wl : List (List Value)} (h : Inv2 n j d wl) : d.goes = true := by simp [Dsk.goes, h.cut, h.off]
theorem Inv1.done {n : Nat} {d : Dsk} {wl : List (List Value)} (h : Inv1 n n d wl) : Inv2 n 0 d wl := by
  refine ⟨h.good, h.order, by rw [h.ops]; omega, h.cut, h.off, h.nl, ?_⟩
  apply List.ext_getElem (by rw [h.nl, h.wll])
  intro i h1 h2
  have := h.same i (by rw [h.wll] at h1; exact h1) (by rw [h.wll] at h1; omega)
  rw [List.getD_eq_getElem?_getD, List.getD_eq_getElem?_getD, List.getElem?_eq_getElem h1, List.getElem?_eq_getElem h2] at this
  exact this
theorem Inv2.step {n j : Nat} {d : Dsk} {wl : List (List Value)} (h : Inv2 n j d wl) {a : Nat} (ha : a < n) (x : List Value) : Inv2 n (j + 1) (d.begun.put a x) (wl.set a x) := by
  have hg := h.goes
  have hm : (a : Int) ∈ d.begun.order := by
    show (a : Int) ∈ d.order
    rw [h.order, mem_downs]
    exact ⟨n - 1 - a, by omega, by omega⟩
  refine ⟨h.good, ?_, ?_, h.cut, ?_, ?_, ?_⟩
  · simp only [Dsk.put, if_pos hm]
    exact h.order
  · show d.ops + 1 = _
    rw [h.ops]; omega
  · show (!d.goes) = false
    rw [hg]; rfl
  · show (d.now.set a x).length = n
    simp [h.nl]
  · show wl.set a x = d.now.set a x
    rw [h.same]

/-- the one flag -/
def flag (n k : Nat) : List Bool := (List.replicate n false).set k true
theorem flag_getD {n k i : Nat} (hk : k < n) : (flag n k).getD i false = decide (i = k) := by
  unfold flag
  by_cases h : k = i
  · subst h
    rw [getD_set_eq (by simp; exact hk)]; simp
  · rw [getD_set_ne h]
    have : ¬ i = k := fun e => h e.symm
    simp [List.getD_eq_getElem?_getD, this, List.getElem?_replicate]
    split <;> rfl

/-- the bites of a crash with one flag: one sector is turned -/
theorem bites_flag {n k : Nat} (hk : k < n) (now : List (List Value)) : ∀ (m : Nat) (j : Nat) (good : List (List Value)), j + m = n → 
    Dsk.bites now (flag n k) (-1) ((List.range' j m).map fun (i : Nat) => (n : Int) - 1 - (i : Int)) j good = if j ≤ k then good.set (n - 1 - k) (now.getD (n - 1 - k) []) else good := by
  intro m
  induction m with
  | zero => intro j good hj; simp [Dsk.bites]; omega
  | succ m ih =>
    intro j good hj
    simp only [List.range'_succ, List.map_cons, Dsk.bites]
    rw [ih (j + 1) _ (by omega)]
    have hb : Dsk.bite now (flag n k) (-1) j ((n : Int) - 1 - (j : Int)).toNat good = if j = k then good.set (n - 1 - k) (now.getD (n - 1 - k) []) else good := by
      unfold Dsk.bite
      rw [if_neg (by omega)]
      have hl : (flag n k).length = n := by simp [flag]
      have hne : flag n k ≠ [] := fun e => by rw [e] at hl; simp at hl; omega
      rw [hl, Nat.mod_eq_of_lt (by omega), flag_getD hk]
      have e : ((n : Int) - 1 - (j : Int)).toNat = n - 1 - j := by omega
      rw [e]
      by_cases h : j = k
      · subst h; simp [hne]
      · simp [h]
    rw [hb]
    by_cases h1 : j = k
    · subst h1
      rw [if_neg (by omega), if_pos rfl, if_pos (Nat.le_refl _)]
    · rw [if_neg h1]
      by_cases h2 : j ≤ k
      · rw [if_pos (by omega), if_pos h2]
      · rw [if_neg (by omega), if_neg h2]

theorem crash_flag {n k j : Nat} (hk : k < n) {d : Dsk} {wl : List (List Value)} (h : Inv2 n j d wl) : (d.crash (flag n k) (-1)).now = (List.replicate n Dsk.zeroSector).set (n - 1 - k) (wl.getD (n - 1 - k) []) := by
  have := bites_flag hk d.now n 0 (List.replicate n Dsk.zeroSector) (by omega)
  rw [if_pos (Nat.zero_le _), ← List.range_eq_range'] at this
  show Dsk.bites d.now (flag n k) (-1) d.order 0 d.good = _
  rw [h.order, h.good, h.same]
  exact this
end Ord
end Go.Proofs.Ythjjckpgjfjokaa
