/- Disk: the plain model of a disk: what its functions compute. No program in sight. -/
import Derived.Test.YthppgchmamonnaaGreatDoorPgBase
namespace Go.Proofs.YthppgchmamonnaaGreatDoor
open Go.RowKit

/-- A disk, as the program keeps it. -/
structure Dsk where
  good : List (List Value)
  now : List (List Value)
  order : List Int
  ops : Int
  cut : Bool
  left : Int
  off : Bool

namespace Dsk
def zeroSector : List Value := List.replicate 64 (.int .u8 0)
/-- a new disk of n sectors -/
def fresh (n : Nat) : Dsk := ⟨List.replicate n zeroSector, List.replicate n zeroSector, [], 0, false, 0, false⟩
def goes (d : Dsk) : Bool := !(d.off || (d.cut && decide (d.left < 1)))
/-- an op begins -/
def begun (d : Dsk) : Dsk := { d with ops := d.ops + 1, off := !d.goes, left := if d.goes && d.cut then d.left - 1 else d.left }
/-- a sector is written: the power is on -/
def put (d : Dsk) (at_ : Nat) (x : List Value) : Dsk := { d with order := if (at_ : Int) ∈ d.order then d.order else d.order ++ [(at_ : Int)], now := d.now.set at_ x }
/-- what Write answers, and leaves: the code of the error -/
def write (d : Dsk) (at_ : Int) (x : List Value) : Dsk × Nat :=
  if at_ < 0 ∨ d.now.length ≤ at_ then (d, 2)
  else if x.length ≠ 64 then (d, 1)
  else if d.goes then (d.begun.put at_.toNat x, 0) else (d.begun, 9)
/-- each of some sectors is made durable -/
def settle (now : List (List Value)) : List Int → List (List Value) → List (List Value)
  | [], good => good
  | k :: r, good => settle now r (good.set k.toNat (now.getD k.toNat []))
def sync (d : Dsk) : Dsk × Nat :=
  if d.goes then ({ d.begun with good := settle d.now d.order d.good, order := [] }, 0) else (d.begun, 9)
/-- what of one waiting write a crash keeps -/
def bite (now : List (List Value)) (keep : List Bool) (torn : Int) (k : Nat) (at_ : Nat) (good : List (List Value)) : List (List Value) :=
  if (k : Int) = torn then good.set at_ ((now.getD at_ []).take 32 ++ (good.getD at_ []).drop 32)
  else if keep ≠ [] ∧ keep.getD (k % keep.length) false = true then good.set at_ (now.getD at_ []) else good
def bites (now : List (List Value)) (keep : List Bool) (torn : Int) : List Int → Nat → List (List Value) → List (List Value)
  | [], _, good => good
  | a :: r, k, good => bites now keep torn r (k + 1) (bite now keep torn k a.toNat good)
/-- what is left behind a crash -/
def crash (d : Dsk) (keep : List Bool) (torn : Int) : Dsk :=
  let g := bites d.now keep torn d.order 0 d.good
  ⟨g, g, [], 0, false, 0, false⟩
def slash (d : Dsk) (n : Int) : Dsk := { d with cut := true, left := max n 0 }

/-- a disk that may be -/
structure Wf (d : Dsk) : Prop where
  len : d.now.length = d.good.length
  pos : 1 ≤ d.good.length
  most : d.good.length ≤ 8192
  good : ∀ x ∈ d.good, x.length = 64 ∧ ∀ u ∈ x, IsByte u
  now : ∀ x ∈ d.now, x.length = 64 ∧ ∀ u ∈ x, IsByte u
  order : ∀ k ∈ d.order, 0 ≤ k ∧ k < d.good.length
  once : d.order.Nodup
  ops : 0 ≤ d.ops
  left : 0 ≤ d.left ∧ d.left ≤ 9223372036854775807
  calm : ∀ i : Nat, i < d.good.length → (i : Int) ∉ d.order → d.now.getD i [] = d.good.getD i []

theorem nodup_le : ∀ (n : Nat) (l : List Int), l.Nodup → (∀ k ∈ l, 0 ≤ k ∧ k < (n : Int)) → l.length ≤ n := by
  intro n
  induction n with
  | zero =>
    intro l _ h
    match l with
    | [] => simp
    | x :: r => have := h x (by simp); omega
  | succ n ih =>
    intro l hn h
    by_cases hm : (n : Int) ∈ l
    · have h1 := ih (l.erase (n : Int)) (hn.erase _) (fun k hk => by
        have := h k (List.mem_of_mem_erase hk)
        have hne : k ≠ (n : Int) := fun e => by subst e; exact (List.Nodup.not_mem_erase hn) hk
        omega)
      have := List.length_erase_of_mem hm
      omega
    · have := ih l hn (fun k hk => by
        have := h k hk
        have hne : k ≠ (n : Int) := fun e => hm (e ▸ hk)
        omega)
      omega

theorem Wf.orderLen {d : Dsk} (h : d.Wf) : d.order.length ≤ 8192 := Nat.le_trans (nodup_le d.good.length d.order h.once h.order) h.most

theorem Wf.begun {d : Dsk} (h : d.Wf) : d.begun.Wf := by
  have hl := h.left
  have ho := h.ops
  refine ⟨h.len, h.pos, h.most, h.good, h.now, h.order, h.once, by simp [Dsk.begun]; omega, ?_, h.calm⟩
  simp only [Dsk.begun]
  split
  · rename_i hg
    simp [goes] at hg
    rcases hg.1.2 with h1 | h1
    · rw [hg.2] at h1; cases h1
    · omega
  · exact hl

theorem Wf.put {d : Dsk} (h : d.Wf) {k : Nat} (hk : k < d.good.length) {x : List Value} (hx : x.length = 64 ∧ ∀ u ∈ x, IsByte u) : (d.put k x).Wf := by
  refine ⟨by simpa [Dsk.put] using h.len, h.pos, h.most, h.good, ?_, ?_, ?_, h.ops, h.left, ?_⟩
  · intro y hy
    simp only [Dsk.put] at hy
    rcases List.mem_or_eq_of_mem_set hy with hy | rfl
    · exact h.now y hy
    · exact hx
  · intro j hj
    simp only [Dsk.put] at hj ⊢
    split at hj
    · exact h.order j hj
    · simp at hj
      rcases hj with hj | rfl
      · exact h.order j hj
      · omega
  · simp only [Dsk.put]
    split
    · exact h.once
    · rename_i hn
      rw [List.nodup_append]
      refine ⟨h.once, by simp, ?_⟩
      intro a ha b hb
      simp at hb
      subst hb
      exact fun e => hn (e ▸ ha)
  · intro i hi hn
    simp only [Dsk.put] at hn ⊢
    have hik : k ≠ i := fun e => by
      subst e
      split at hn
      · rename_i hm; exact hn hm
      · exact hn (by simp)
    rw [List.getD_eq_getElem?_getD, List.getElem?_set_ne hik, ← List.getD_eq_getElem?_getD]
    refine h.calm i hi fun hm => ?_
    split at hn
    · exact hn hm
    · exact hn (by simp [hm])

theorem settle_getD (now : List (List Value)) : ∀ (l : List Int) (good : List (List Value)) (i : Nat), (∀ k ∈ l, 0 ≤ k) → i < good.length → (settle now l good).getD i [] = if (i : Int) ∈ l then now.getD i [] else good.getD i [] := by
  intro l
  induction l with
  | nil => intro good i _ _; simp [settle]
  | cons k r ih =>
    intro good i hl hi
    rw [settle, ih _ i (fun j hj => hl j (by simp [hj])) (by simpa using hi)]
    have hk := hl k (by simp)
    by_cases hr : (i : Int) ∈ r
    · rw [if_pos hr, if_pos (by simp [hr])]
    · rw [if_neg hr]
      by_cases hik : (i : Int) = k
      · rw [if_pos (by simp [hik])]
        have e : k.toNat = i := by omega
        rw [e, List.getD_eq_getElem?_getD, List.getElem?_set_self hi]; rfl
      · rw [if_neg (by simp [hik, hr]), List.getD_eq_getElem?_getD, List.getElem?_set_ne (by omega), ← List.getD_eq_getElem?_getD]
theorem bites_all (now : List (List Value)) : ∀ (l : List Int) (k : Nat) (good : List (List Value)), bites now [true] (-1) l k good = settle now l good := by
  intro l
  induction l with
  | nil => intro k good; rfl
  | cons a r ih =>
    intro k good
    rw [bites, settle, ih]
    congr 1
    unfold bite
    rw [if_neg (by omega), if_pos ⟨by simp, by simp [Nat.mod_one]⟩]

theorem settle_length (now : List (List Value)) : ∀ (l : List Int) (good : List (List Value)), (settle now l good).length = good.length := by
  intro l
  induction l with
  | nil => intro good; rfl
  | cons k r ih => intro good; simp [settle, ih]
theorem settle_snoc (now : List (List Value)) (k : Int) : ∀ (l : List Int) (good : List (List Value)), settle now (l ++ [k]) good = (settle now l good).set k.toNat (now.getD k.toNat []) := by
  intro l
  induction l with
  | nil => intro good; rfl
  | cons j r ih => intro good; simp [settle, ih]
theorem bites_length (now : List (List Value)) (keep : List Bool) (torn : Int) : ∀ (l : List Int) (k : Nat) (good : List (List Value)), (bites now keep torn l k good).length = good.length := by
  intro l
  induction l with
  | nil => intro k good; rfl
  | cons a r ih => intro k good; simp only [bites, ih, bite]; split <;> (try split) <;> simp
theorem bites_snoc (now : List (List Value)) (keep : List Bool) (torn : Int) (a : Int) : ∀ (l : List Int) (k : Nat) (good : List (List Value)), bites now keep torn (l ++ [a]) k good = bite now keep torn (k + l.length) a.toNat (bites now keep torn l k good) := by
  intro l
  induction l with
  | nil => intro k good; rfl
  | cons j r ih => intro k good; simp only [List.cons_append, bites, ih, List.length_cons]; congr 1; omega

/-- every sector is 64 cells -/
def Sectors (l : List (List Value)) : Prop := ∀ x ∈ l, x.length = 64 ∧ ∀ u ∈ x, IsByte u
theorem Sectors.getD {l : List (List Value)} (h : Sectors l) {i : Nat} (hi : i < l.length) : (l.getD i []).length = 64 ∧ ∀ u ∈ l.getD i [], IsByte u := by
  rw [List.getD_eq_getElem?_getD, List.getElem?_eq_getElem hi]
  exact h _ (List.getElem_mem hi)
theorem Sectors.set {l : List (List Value)} (h : Sectors l) (i : Nat) {x : List Value} (hx : x.length = 64 ∧ ∀ u ∈ x, IsByte u) : Sectors (l.set i x) := fun y hy => by
  rcases List.mem_or_eq_of_mem_set hy with hy | rfl
  · exact h y hy
  · exact hx
theorem Sectors.settle {now : List (List Value)} (hn : Sectors now) : ∀ (l : List Int) (good : List (List Value)), (∀ k ∈ l, 0 ≤ k ∧ k < (now.length : Int)) → Sectors good → Sectors (Dsk.settle now l good) := by
  intro l
  induction l with
  | nil => intro good _ hg; exact hg
  | cons k r ih =>
    intro good hl hg
    refine ih _ (fun j hj => hl j (by simp [hj])) (hg.set _ (hn.getD ?_))
    have := hl k (by simp)
    omega
theorem Sectors.bite {now good : List (List Value)} (hn : Sectors now) (hg : Sectors good) {keep : List Bool} {torn : Int} {k at_ : Nat} (ha : at_ < now.length) (hl : now.length = good.length) : Sectors (Dsk.bite now keep torn k at_ good) := by
  have h1 := hn.getD ha
  have h2 := hg.getD (i := at_) (by omega)
  unfold Dsk.bite
  split
  · refine hg.set _ ⟨by simp only [List.length_append, List.length_take, List.length_drop]; omega, fun u hu => ?_⟩
    rcases List.mem_append.1 hu with hu | hu
    · exact h1.2 u (List.mem_of_mem_take hu)
    · exact h2.2 u (List.mem_of_mem_drop hu)
  · split
    · exact hg.set _ h1
    · exact hg
theorem bite_length (now : List (List Value)) (keep : List Bool) (torn : Int) (k at_ : Nat) (good : List (List Value)) : (bite now keep torn k at_ good).length = good.length := by
  unfold bite; split <;> (try split) <;> simp
theorem Sectors.bites {now : List (List Value)} (hn : Sectors now) {keep : List Bool} {torn : Int} : ∀ (l : List Int) (k : Nat) (good : List (List Value)), (∀ k ∈ l, 0 ≤ k ∧ k < (now.length : Int)) → now.length = good.length → Sectors good → Sectors (Dsk.bites now keep torn l k good) := by
  intro l
  induction l with
  | nil => intro k good _ _ hg; exact hg
  | cons a r ih =>
    intro k good hl he hg
    have := hl a (by simp)
    exact ih _ _ (fun j hj => hl j (by simp [hj])) (by rw [bite_length]; exact he) (hn.bite hg (by omega) he)

theorem Wf.sync {d : Dsk} (h : d.Wf) : d.sync.1.Wf := by
  unfold Dsk.sync
  split
  · have hb := h.begun
    refine ⟨by simp only [settle_length]; exact h.len, by simp only [settle_length]; exact h.pos, by simp only [settle_length]; exact h.most, ?_, h.now, by simp, by simp, hb.ops, hb.left, ?_⟩
    · exact Sectors.settle h.now _ _ (fun k hk => by rw [h.len]; exact h.order k hk) h.good
    · intro i hi _
      simp only [settle_length] at hi
      show d.now.getD i [] = (settle d.now d.order d.good).getD i []
      rw [settle_getD _ _ _ _ (fun k hk => (h.order k hk).1) hi]
      split
      · rfl
      · rename_i hn; exact h.calm i hi hn
  · exact h.begun
theorem Wf.crash {d : Dsk} (h : d.Wf) (keep : List Bool) (torn : Int) : (d.crash keep torn).Wf := by
  have hs : Sectors (Dsk.bites d.now keep torn d.order 0 d.good) := Sectors.bites h.now _ _ _ (fun k hk => by rw [h.len]; exact h.order k hk) h.len h.good
  exact ⟨rfl, by simp only [Dsk.crash, bites_length]; exact h.pos, by simp only [Dsk.crash, bites_length]; exact h.most, hs, hs, by simp [Dsk.crash], by simp [Dsk.crash], by simp [Dsk.crash], by simp [Dsk.crash], fun _ _ _ => rfl⟩
theorem Wf.fresh {n : Nat} (h1 : 1 ≤ n) (h2 : n ≤ 8192) : (fresh n).Wf := by
  have hs : Sectors (List.replicate n zeroSector) := fun x hx => by
    rw [List.mem_replicate] at hx
    rw [hx.2]
    refine ⟨by simp [zeroSector], fun u hu => ?_⟩
    rw [zeroSector, List.mem_replicate] at hu
    rw [hu.2]; exact ⟨0, rfl⟩
  exact ⟨rfl, by simpa [Dsk.fresh] using h1, by simpa [Dsk.fresh] using h2, hs, hs, by simp [Dsk.fresh], by simp [Dsk.fresh], by simp [Dsk.fresh], by simp [Dsk.fresh], fun _ _ _ => rfl⟩
theorem Wf.slash {d : Dsk} (h : d.Wf) {n : Int} (hn : n ≤ 9223372036854775807) : (d.slash n).Wf :=
  ⟨h.len, h.pos, h.most, h.good, h.now, h.order, h.once, h.ops, by simp only [Dsk.slash]; omega, h.calm⟩
end Dsk
end Go.Proofs.YthppgchmamonnaaGreatDoor
