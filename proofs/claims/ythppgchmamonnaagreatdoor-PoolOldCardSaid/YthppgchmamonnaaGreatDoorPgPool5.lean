/- The pool: which page goes; evict, where no page that goes is dirty. -/
import Derived.Test.YthppgchmamonnaaGreatDoorPgPool4
namespace Go.Proofs.YthppgchmamonnaaGreatDoor
open Go.RowKit

/-- is x the better one to go? -/
def better (P : Pl) (acc : Option (Int × Hd)) (x : Int × Hd) : Option (Int × Hd) :=
  if P.may x.2 && (match acc with | none => true | some y => decide (x.2.used < y.2.used)) then some x else acc
/-- the best one to go -/
def bestOf (P : Pl) (l : List (Int × Hd)) : Option (Int × Hd) := l.foldl (better P) none
theorem bestOf_take (P : Pl) (l : List (Int × Hd)) (j : Nat) (h : j < l.length) : bestOf P (l.take (j + 1)) = better P (bestOf P (l.take j)) l[j] := by
  rw [List.take_succ_eq_append_getElem h, bestOf, List.foldl_append]; rfl
theorem bestOf_mem (P : Pl) : ∀ (l : List (Int × Hd)) (x : Int × Hd), bestOf P l = some x → x ∈ l ∧ P.may x.2 = true := by
  have key : ∀ (l : List (Int × Hd)) (acc : Option (Int × Hd)) (x : Int × Hd), l.foldl (better P) acc = some x → acc = some x ∨ (x ∈ l ∧ P.may x.2 = true) := by
    intro l
    induction l with
    | nil => intro acc x h; exact .inl h
    | cons y r ih =>
      intro acc x h
      rw [List.foldl_cons] at h
      rcases ih _ _ h with h1 | h1
      · unfold better at h1
        generalize (match acc with | none => true | some z => decide (y.2.used < z.2.used)) = c at h1
        by_cases hc : (P.may y.2 && c) = true
        · rw [if_pos hc] at h1
          have e := Option.some.inj h1
          subst e
          simp only [Bool.and_eq_true] at hc
          exact .inr ⟨by simp, hc.1⟩
        · rw [if_neg hc] at h1
          exact .inl h1
      · exact .inr ⟨List.mem_cons_of_mem _ h1.1, h1.2⟩
  intro l x h
  rcases key l none x h with h1 | h1
  · cases h1
  · exact h1
theorem better_no {P : Pl} {acc : Option (Int × Hd)} {x : Int × Hd} (h : P.may x.2 = false) : better P acc x = acc := by unfold better; rw [h]; rfl
theorem better_none {P : Pl} {x : Int × Hd} (h : P.may x.2 = true) : better P none x = some x := by unfold better; rw [h]; rfl
theorem better_some {P : Pl} {x y : Int × Hd} (h : P.may x.2 = true) : better P (some y) x = if x.2.used < y.2.used then some x else some y := by
  unfold better; rw [h]
  by_cases hu : x.2.used < y.2.used
  · simp [hu]
  · simp [hu]
/-- its number; -1: none -/
def keyOr : Option (Int × Hd) → Int
  | none => -1
  | some x => x.1
/-- the pages' numbers may be -/
def Pl.Keyed (P : Pl) : Prop := ∀ p ∈ P.all, 0 ≤ p.1 ∧ p.1 ≤ 1000000
theorem PoolAt.find {w : World} {b bd mb : Nat} {P : Pl} {S : Nat → Prop} (h : PoolAt w b bd mb P S) {k : Int} {x : Hd} (hx : (k, x) ∈ P.all) : find P.map k = some x.g :=
  (find_mem h.map.2).2 (List.mem_map.2 ⟨(k, x), hx, rfl⟩)
theorem PoolAt.look {w : World} {b bd mb : Nat} {P : Pl} {S : Nat → Prop} (h : PoolAt w b bd mb P S) (hk : P.Keyed) {k : Int} {x : Hd} (hx : (k, x) ∈ P.all) :
    (Instr.lookup 74 (.map (some mb)) (.int .i64 k) false).run Tryz.prog w = .ok (.pointer (some ⟨x.g, 0, none⟩)) w := by
  have h1 := hk _ hx
  have := h.map.look Tryz.underlying74 (by kernel_rfl) k (by simp only [Lit.wf, Bool.and_eq_true, decide_eq_true_eq]; exact ⟨by show -9223372036854775808 ≤ k; have := h1.1; simp at this; omega, by show k ≤ 9223372036854775807; have := h1.2; simp at this; omega⟩)
  rw [h.find hx] at this
  exact this
end Go.Proofs.YthppgchmamonnaaGreatDoor
