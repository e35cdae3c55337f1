/- A region that draws its order, with two calls, one behind the other, and four allocs: whatever order comes up. No program in sight. -/
import Derived.Test.YthjiobmglebmdaaGreatDoorPgBase
namespace Go.Proofs.YthjiobmglebmdaaGreatDoor
open Go.RowKit

theorem six {P : Program} {ops : Array Oper} {Q : Exit → Act → World → Prop} {S : World → Prop} (m i0 i1 i2 i3 i4 i5 : Nat) (L : Bool → Bool → Bool → Bool → Bool → Bool → Array Bool)
    (J : Bool → Bool → Bool → Bool → Bool → Bool → Act → World → Prop)
    (hne : ∀ a b c d e f, (c && d && e && f) = false → (b && !a) = false → (Region.ready .any ops (L a b c d e f)).isEmpty = false)
    (hr : ∀ a b c d e f, (c && d && e && f) = false → (b && !a) = false → ((Region.ready .any ops (L a b c d e f)).all fun j => (j == i0 && !a) || (j == i1 && (a && !b)) || (j == i2 && !c) || (j == i3 && !d) || (j == i4 && !e) || (j == i5 && !f)) = true)
    (s0 : ∀ b c d e f, (L false b c d e f).setIfInBounds i0 true = L true b c d e f)
    (s1 : ∀ a c d e f, (L a false c d e f).setIfInBounds i1 true = L a true c d e f)
    (s2 : ∀ a b d e f, (L a b false d e f).setIfInBounds i2 true = L a b true d e f)
    (s3 : ∀ a b c e f, (L a b c false e f).setIfInBounds i3 true = L a b c true e f)
    (s4 : ∀ a b c d f, (L a b c d false f).setIfInBounds i4 true = L a b c d true f)
    (s5 : ∀ a b c d e, (L a b c d e false).setIfInBounds i5 true = L a b c d e true)
    (t0 : ∀ b c d e f A W K, J false b c d e f A W → Hid (∀ A' W', S W' → J true b c d e f A' W' → K A' W') → wpOp P ops Q i0 K A W)
    (t1 : ∀ c d e f A W K, J true false c d e f A W → Hid (∀ A' W', S W' → J true true c d e f A' W' → K A' W') → wpOp P ops Q i1 K A W)
    (t2 : ∀ a b d e f A W K, J a b false d e f A W → Hid (∀ A' W', S W' → J a b true d e f A' W' → K A' W') → wpOp P ops Q i2 K A W)
    (t3 : ∀ a b c e f A W K, J a b c false e f A W → Hid (∀ A' W', S W' → J a b c true e f A' W' → K A' W') → wpOp P ops Q i3 K A W)
    (t4 : ∀ a b c d f A W K, J a b c d false f A W → Hid (∀ A' W', S W' → J a b c d true f A' W' → K A' W') → wpOp P ops Q i4 K A W)
    (t5 : ∀ a b c d e A W K, J a b c d e false A W → Hid (∀ A' W', S W' → J a b c d e true A' W' → K A' W') → wpOp P ops Q i5 K A W)
    (fin0 : ∀ A W, J false false true true true true A W → wpAnyH P .any ops Q S (m + 2) (L false false true true true true) A W)
    (fin1 : ∀ A W, J true false true true true true A W → wpAnyH P .any ops Q S (m + 1) (L true false true true true true) A W)
    (fin2 : ∀ A W, J true true true true true true A W → wpAnyH P .any ops Q S m (L true true true true true true) A W) :
    ∀ n a b c d e f A W, (b && !a) = false → (bif a then 0 else 1) + (bif b then 0 else 1) + (bif c then 0 else 1) + (bif d then 0 else 1) + (bif e then 0 else 1) + (bif f then 0 else 1) = n → J a b c d e f A W →
      wpAnyH P .any ops Q S (m + n) (L a b c d e f) A W
  | n, a, b, c, d, e, f, A, W, hab, hn, hJ => by
    by_cases hall : (c && d && e && f) = true
    · simp only [Bool.and_eq_true] at hall
      obtain ⟨⟨⟨rfl, rfl⟩, rfl⟩, rfl⟩ := hall
      cases a <;> cases b
      · simp only [cond_true, cond_false] at hn
        subst hn
        exact fin0 A W hJ
      · simp at hab
      · simp only [cond_true, cond_false] at hn
        subst hn
        exact fin1 A W hJ
      · simp only [cond_true] at hn
        subst hn
        exact fin2 A W hJ
    · have hall : (c && d && e && f) = false := by simpa using hall
      match n, hn with
      | 0, hn => cases c <;> cases d <;> cases e <;> cases f <;> simp at hn hall
      | n + 1, hn =>
        have ih := six m i0 i1 i2 i3 i4 i5 L J hne hr s0 s1 s2 s3 s4 s5 t0 t1 t2 t3 t4 t5 fin0 fin1 fin2 n
        have h0 := hne a b c d e f hall hab
        refine wpAnyH_all (rs := Region.ready .any ops (L a b c d e f)) rfl (fun h => by rw [h] at h0; cases h0) fun j hj => ?_
        have hrj := List.all_eq_true.1 (hr a b c d e f hall hab) j hj
        have hrj' : (j = i0 ∧ a = false) ∨ (j = i1 ∧ a = true ∧ b = false) ∨ (j = i2 ∧ c = false) ∨ (j = i3 ∧ d = false) ∨ (j = i4 ∧ e = false) ∨ (j = i5 ∧ f = false) := by
          simpa [or_assoc] using hrj
        rcases hrj' with ⟨rfl, rfl⟩ | ⟨rfl, rfl, rfl⟩ | ⟨rfl, rfl⟩ | ⟨rfl, rfl⟩ | ⟨rfl, rfl⟩ | ⟨rfl, rfl⟩
        · exact t0 _ _ _ _ _ _ _ _ hJ (Lib.hid fun A' W' hS hJ' => ⟨hS, by rw [s0]; exact ih _ _ _ _ _ _ _ _ (by simp) (by simp only [cond_true, cond_false] at hn ⊢; omega) hJ'⟩)
        · exact t1 _ _ _ _ _ _ _ hJ (Lib.hid fun A' W' hS hJ' => ⟨hS, by rw [s1]; exact ih _ _ _ _ _ _ _ _ (by simp) (by simp only [cond_true, cond_false] at hn ⊢; omega) hJ'⟩)
        · exact t2 _ _ _ _ _ _ _ _ hJ (Lib.hid fun A' W' hS hJ' => ⟨hS, by rw [s2]; exact ih _ _ _ _ _ _ _ _ hab (by simp only [cond_true, cond_false] at hn ⊢; omega) hJ'⟩)
        · exact t3 _ _ _ _ _ _ _ _ hJ (Lib.hid fun A' W' hS hJ' => ⟨hS, by rw [s3]; exact ih _ _ _ _ _ _ _ _ hab (by simp only [cond_true, cond_false] at hn ⊢; omega) hJ'⟩)
        · exact t4 _ _ _ _ _ _ _ _ hJ (Lib.hid fun A' W' hS hJ' => ⟨hS, by rw [s4]; exact ih _ _ _ _ _ _ _ _ hab (by simp only [cond_true, cond_false] at hn ⊢; omega) hJ'⟩)
        · exact t5 _ _ _ _ _ _ _ _ hJ (Lib.hid fun A' W' hS hJ' => ⟨hS, by rw [s5]; exact ih _ _ _ _ _ _ _ _ hab (by simp only [cond_true, cond_false] at hn ⊢; omega) hJ'⟩)
/-- one operation of a region: as a step of the walk -/
theorem op_step {P : Program} {ops : Array Oper} {Q : Exit → Act → World → Prop} {K : Act → World → Prop} {a : Act} {w : World} {i : Nat} {o : Oper} (ho : ops[i]? = some o)
    (h : ∀ K' : Act → World → Prop, Hid (∀ a w, K a w → K' a w) → if Region.wanted o (yielded ops a.tmps) = true then Oper.wp P o a w K' Q else K' (a.put o.dst undef) w) : wpOp P ops Q i K a w :=
  wpOp_step ho (fun K' hK => h K' (Lib.hid hK))

/-- blocks of one's own, new since w, that hold cs, in the places that are marked -/
def Boxes (w W : World) (o : Obj) (l : List (Bool × Value)) : Prop :=
  ∃ gs : Nat → Nat, (∀ i v, l[i]? = some (true, v) → v = .pointer (some ⟨gs i, 0, none⟩) ∧ w.heap.size ≤ gs i ∧ gs i < W.heap.size ∧ W.heap[gs i]? = some o) ∧ ∀ i j u v, l[i]? = some (true, u) → l[j]? = some (true, v) → i ≠ j → gs i ≠ gs j
theorem Boxes.kept {w W W' : World} {o : Obj} {l : List (Bool × Value)} (h : Boxes w W o l) (hk : Kept Nob W W') : Boxes w W' o l := by
  obtain ⟨gs, h1, h2⟩ := h
  refine ⟨gs, fun i v hi => ?_, h2⟩
  obtain ⟨a, b, c, d⟩ := h1 i v hi
  exact ⟨a, b, Nat.lt_of_lt_of_le c hk.size, (hk.block _ c (fun f => f)).trans d⟩
theorem Boxes.set {w W : World} {o : Obj} {l : List (Bool × Value)} (h : Boxes w W o l) (hw : w.heap.size ≤ W.heap.size) (k : Nat) :
    Boxes w (W.alloc o) o (l.set k (true, .pointer (some ⟨W.heap.size, 0, none⟩))) := by
  obtain ⟨gs, h1, h2⟩ := h
  refine ⟨fun i => if i = k then W.heap.size else gs i, fun i v hi => ?_, fun i j u v hi hj hne => ?_⟩
  · by_cases e : i = k
    · subst e
      rw [List.getElem?_set] at hi
      simp only [if_true] at hi
      split at hi
      · simp only [Option.some.injEq, Prod.mk.injEq, true_and] at hi
        simp only [if_true]
        exact ⟨hi.symm, hw, by simp, heap_alloc_new W o⟩
      · cases hi
    · rw [List.getElem?_set_ne (Ne.symm e)] at hi
      obtain ⟨a, b, c, d⟩ := h1 i v hi
      simp only [if_neg e]
      exact ⟨a, b, by simp; omega, (Below.heap_alloc W o _ c).trans d⟩
  · simp only
    by_cases e : i = k
    · have e' : j ≠ k := by omega
      rw [List.getElem?_set_ne (Ne.symm e')] at hj
      rw [if_pos e, if_neg e']
      have := (h1 j v hj).2.2.1
      omega
    · rw [List.getElem?_set_ne (Ne.symm e)] at hi
      rw [if_neg e]
      by_cases e' : j = k
      · rw [if_pos e']
        have := (h1 i u hi).2.2.1
        omega
      · rw [List.getElem?_set_ne (Ne.symm e')] at hj
        rw [if_neg e']
        exact h2 i j u v hi hj hne
theorem set2 {W : World} {g : Nat} {T : TypeId} {u v : Value} (x y : Value) (hb : W.heap[g]? = some (.cells #[u, v] T (0, 0))) :
    ((W.setCell ⟨g, 0, none⟩ x).setCell ⟨g, 1, none⟩ y).heap[g]? = some (.cells #[x, y] T (0, 0)) ∧ Kept (Just g) W ((W.setCell ⟨g, 0, none⟩ x).setCell ⟨g, 1, none⟩ y) :=
  ⟨heap_setCell_same _ g 1 _ T y (heap_setCell_same W g 0 _ T x hb), (kept1 W g 0 x).trans' (kept1 _ g 1 y)⟩
end Go.Proofs.YthjiobmglebmdaaGreatDoor
