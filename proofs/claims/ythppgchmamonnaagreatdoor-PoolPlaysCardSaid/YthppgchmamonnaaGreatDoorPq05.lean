/- Maps from numbers to pointers: what they hold, as a rising list. -/
import Derived.Test.YthppgchmamonnaaGreatDoorPq03
import Derived.Maps.OwnSet
namespace Go.Proofs.YthppgchmamonnaaGreatDoor
open Go.RowKit Go.Maps
def ptrElem : Value → Option (DataW Unit × List MemPlace)
  | .pointer none => some (.lit (.int .i64 (-1)), [])
  | .pointer (some ⟨g, 0, none⟩) => some (.lit (.int .i64 (g : Nat)), [])
  | _ => none
def ptrOf : Option Nat → Value
  | none => .pointer none
  | some g => .pointer (some ⟨g, 0, none⟩)
def numOf' : Option Nat → Int
  | none => -1
  | some g => (g : Int)
theorem ptrElem_inv {v : Value} {o : Option Nat} {ps : List MemPlace} (h : ptrElem v = some (.lit (.int .i64 (numOf' o)), ps)) : v = ptrOf o := by
  unfold ptrElem at h
  split at h
  · cases o with
    | none => rfl
    | some g =>
      simp only [numOf', Option.some.injEq, Prod.mk.injEq, DataW.lit.injEq, Lit.int.injEq, true_and] at h
      have := h.1; omega
  · rename_i g
    cases o with
    | none =>
      simp only [numOf', Option.some.injEq, Prod.mk.injEq, DataW.lit.injEq, Lit.int.injEq, true_and] at h
      have := h.1; omega
    | some g' =>
      simp only [numOf', Option.some.injEq, Prod.mk.injEq, DataW.lit.injEq, Lit.int.injEq, true_and] at h
      have := h.1
      obtain rfl : g = g' := by omega
      rfl
  · cases h
def find (l : List (Int × Nat)) (k : Int) : Option Nat := (l.find? fun p => p.1 == k).map (·.2)
def ins (k : Int) (g : Nat) : List (Int × Nat) → List (Int × Nat)
  | [] => [(k, g)]
  | y :: r => if k < y.1 then (k, g) :: y :: r else y :: ins k g r
def del (l : List (Int × Nat)) (k : Int) : List (Int × Nat) := l.filter fun p => !(p.1 == k)
def put (l : List (Int × Nat)) (k : Int) (g : Nat) : List (Int × Nat) := ins k g (del l k)
def Rising (l : List (Int × Nat)) : Prop := l.Pairwise fun p q => p.1 < q.1
theorem Rising.nil : Rising [] := List.Pairwise.nil
theorem Rising.del {l : List (Int × Nat)} (h : Rising l) (k : Int) : Rising (del l k) := List.Pairwise.filter _ h
theorem mem_ins {k : Int} {g : Nat} {p : Int × Nat} : ∀ {l : List (Int × Nat)}, p ∈ ins k g l ↔ p = (k, g) ∨ p ∈ l := by
  intro l
  induction l with
  | nil => simp [ins]
  | cons y r ih =>
    simp only [ins]
    split
    · simp
    · simp only [List.mem_cons, ih]
      constructor
      · rintro (h | h | h)
        · exact .inr (.inl h)
        · exact .inl h
        · exact .inr (.inr h)
      · rintro (h | h | h)
        · exact .inr (.inl h)
        · exact .inl h
        · exact .inr (.inr h)
theorem Rising.ins {l : List (Int × Nat)} {k : Int} {g : Nat} (h : Rising l) (hk : ∀ p ∈ l, p.1 ≠ k) : Rising (ins k g l) := by
  unfold Rising at *
  induction l with
  | nil => simp [Proofs.YthppgchmamonnaaGreatDoor.ins]
  | cons y r ih =>
    rw [List.pairwise_cons] at h
    simp only [Proofs.YthppgchmamonnaaGreatDoor.ins]
    split
    · rename_i hlt
      rw [List.pairwise_cons]
      refine ⟨fun p hp => ?_, List.pairwise_cons.2 h⟩
      rcases List.mem_cons.1 hp with rfl | hp
      · exact hlt
      · exact Int.lt_trans hlt (h.1 p hp)
    · rename_i hlt
      rw [List.pairwise_cons]
      refine ⟨fun p hp => ?_, ih h.2 fun p hp => hk p (by simp [hp])⟩
      rcases mem_ins.1 hp with rfl | hp
      · have := hk y (by simp)
        show y.1 < k
        omega
      · exact h.1 p hp
theorem Rising.put {l : List (Int × Nat)} (h : Rising l) (k : Int) (g : Nat) : Rising (put l k g) :=
  (h.del k).ins fun p hp => by simpa [Proofs.YthppgchmamonnaaGreatDoor.del] using (List.mem_filter.1 hp).2
theorem find_mem {l : List (Int × Nat)} (h : Rising l) {k : Int} {g : Nat} : find l k = some g ↔ (k, g) ∈ l := by
  unfold Rising at h
  induction l with
  | nil => simp [find]
  | cons y r ih =>
    rw [List.pairwise_cons] at h
    have ih := ih h.2
    unfold find at *
    rw [List.find?_cons]
    by_cases hk : y.1 = k
    · have : (y.1 == k) = true := by simpa using hk
      rw [this]
      constructor
      · intro e
        simp at e
        rw [← hk, ← e]; simp
      · intro e
        rcases List.mem_cons.1 e with e | e
        · rw [← e]; rfl
        · have := h.1 _ e
          simp at this; omega
    · have : (y.1 == k) = false := by simpa using hk
      rw [this]
      refine ih.trans ⟨fun e => List.mem_cons_of_mem _ e, fun e => ?_⟩
      rcases List.mem_cons.1 e with e | e
      · exact absurd (by rw [← e]) hk
      · exact e
theorem find_none {l : List (Int × Nat)} {k : Int} : find l k = none ↔ ∀ p ∈ l, p.1 ≠ k := by
  unfold find
  simp
def Mp (l : List (Int × Nat)) : DataW Unit := .map (l.map fun p => (.int .i64 p.1, .lit (.int .i64 (p.2 : Nat))))
theorem Mp_insert (k : Int) (g : Nat) : ∀ l : List (Int × Nat), DataW.insert ((.int .i64 k, .lit (.int .i64 (g : Nat))) : Lit × DataW Unit) (l.map fun p => (.int .i64 p.1, .lit (.int .i64 (p.2 : Nat)))) = (ins k g l).map fun p => (.int .i64 p.1, .lit (.int .i64 (p.2 : Nat))) := by
  intro l
  induction l with
  | nil => rfl
  | cons y r ih =>
    simp only [List.map_cons, DataW.insert, ins, Lit.before]
    by_cases h : k < y.1
    · simp [h]
    · simp [h, ih]
theorem Mp_del (l : List (Int × Nat)) (k : Int) : (Mp l).del (.int .i64 k) = Mp (del l k) := by
  simp only [Mp, DataW.del, del, DataW.map.injEq, List.filter_map]
  congr 1
  refine List.filter_congr fun p _ => ?_
  simp [Lit.sameKey, Function.comp]
  by_cases h : p.1 = k <;> simp [h]
theorem Mp_put (l : List (Int × Nat)) (k : Int) (g : Nat) : (Mp l).put (.int .i64 k) (.lit (.int .i64 (g : Nat))) = Mp (put l k g) := by
  have h := Mp_del l k
  simp only [Mp, DataW.del, DataW.map.injEq] at h
  simp only [Mp, DataW.put, put, h, DataW.map.injEq]
  exact Mp_insert k g _
theorem Mp_at (l : List (Int × Nat)) (k : Int) : (Mp l).atKey (.int .i64 k) (.lit (.int .i64 (-1))) = .lit (.int .i64 (numOf' (find l k))) := by
  unfold Mp DataW.atKey find
  simp only [List.find?_map]
  have : ((fun p => p.1.sameKey (.int .i64 k)) ∘ fun p : Int × Nat => ((Lit.int .i64 p.1, DataW.lit (H := Unit) (.int .i64 (p.2 : Nat))) : Lit × DataW Unit)) = fun p : Int × Nat => p.1 == k := by
    funext p
    simp [Lit.sameKey, Function.comp]
    by_cases h : p.1 = k <;> simp [h]
  rw [this]
  cases l.find? (fun p : Int × Nat => p.1 == k) <;> rfl
theorem Mp_has (l : List (Int × Nat)) (k : Int) : Maps.has (Mp l) (.int .i64 k) = (find l k).isSome := by
  unfold find Mp
  rw [Maps.has_eq, List.any_map, Option.isSome_map]
  induction l with
  | nil => rfl
  | cons y r ih =>
    rw [List.any_cons, List.find?_cons, ih]
    by_cases h : y.1 = k
    · simp [h, Lit.sameKey]
    · have hb : (y.1 == k) = false := by simpa using h
      rw [hb]
      simp [h, Lit.sameKey]
theorem Mp_size (l : List (Int × Nat)) : Maps.size (Mp l) = l.length := by simp [Maps.size, Mp]
def MapAt (w : World) (b : Nat) (l : List (Int × Nat)) : Prop := w.ownsMap Tryz.prog 3 ptrElem b l.length (Mp l) ∧ Rising l
theorem own_exact {w : World} {b n : Nat} {l : List (Int × Nat)} (h : w.ownsMap Tryz.prog 3 ptrElem b n (Mp l)) : w.ownsMap Tryz.prog 3 ptrElem b l.length (Mp l) := by
  obtain ⟨es, clock, hb, F, hs, hD⟩ := h
  refine ⟨es, clock, hb, F, ?_, hD⟩
  have := congrArg Maps.size hD
  rw [Mp_size] at this
  rw [this]
  simp [Maps.size, length_sorted]
theorem MapAt.lt {w : World} {b : Nat} {l : List (Int × Nat)} (h : MapAt w b l) : b < w.heap.size := h.1.lt
theorem MapAt.kept {w w' : World} {b : Nat} {l : List (Int × Nat)} {G : Nat → Prop} (h : MapAt w b l) (hk : Kept G w w') (hb : ¬ G b) : MapAt w' b l := by
  have hlt := h.lt
  obtain ⟨⟨es, clock, hb', F, hs, hD⟩, hr⟩ := h
  exact ⟨⟨es, clock, (hk.block b hlt hb).trans hb', F, hs, hD⟩, hr⟩
theorem MapAt.made (w : World) : MapAt (w.alloc (.map #[] 0)) w.heap.size [] := ⟨World.ownsMap_made w _ _ _, Rising.nil⟩
theorem MapAt.look {w : World} {b : Nat} {l : List (Int × Nat)} (h : MapAt w b l) {t e : TypeId} (ht : Tryz.prog.underlying t = some (.map 3 e)) (hz : (zeroValue e).run Tryz.prog w = .ok (.pointer none) w) (k : Int) (hk : (Lit.int .i64 k).wf = true) :
    (Instr.lookup t (.map (some b)) (.int .i64 k) false).run Tryz.prog w = .ok (ptrOf (find l k)) w := by
  obtain ⟨v, ps, hrun, hv⟩ := h.1.lookup (int_keyed Tryz.underlying3) ht hz (zd := .lit (.int .i64 (-1))) (zp := []) rfl (keyOf_int_mk Tryz.underlying3 hk)
  rw [Mp_at] at hv
  rw [hrun, ptrElem_inv hv]
theorem MapAt.look_ok {w : World} {b : Nat} {l : List (Int × Nat)} (h : MapAt w b l) {t e : TypeId} (ht : Tryz.prog.underlying t = some (.map 3 e)) (hz : (zeroValue e).run Tryz.prog w = .ok (.pointer none) w) (k : Int) (hk : (Lit.int .i64 k).wf = true) :
    (Instr.lookup t (.map (some b)) (.int .i64 k) true).run Tryz.prog w = .ok (.tuple #[ptrOf (find l k), .bool (find l k).isSome]) w := by
  obtain ⟨v, ps, hrun, hv⟩ := h.1.look_ok (int_keyed Tryz.underlying3) ht hz (zd := .lit (.int .i64 (-1))) (zp := []) rfl (keyOf_int_mk Tryz.underlying3 hk)
  rw [Mp_at] at hv
  rw [hrun, ptrElem_inv hv]
  rw [Mp_has]
theorem MapAt.len {w : World} {b : Nat} {l : List (Int × Nat)} (h : MapAt w b l) {t e : TypeId} (ht : Tryz.prog.underlying t = some (.map 3 e)) (ty : TypeId) :
    (Builtin.len_ #[t] ty #[.map (some b)]).run Tryz.prog w = .ok (.int .i64 l.length) w := by
  rw [h.1.len ht ty, Mp_size]
theorem MapAt.store {w : World} {b : Nat} {l : List (Int × Nat)} (h : MapAt w b l) {t e : TypeId} (ht : Tryz.prog.underlying t = some (.map 3 e)) (hl : l.length < maxLen) (k : Int) (hk : (Lit.int .i64 k).wf = true) (g : Nat) :
    ∃ w', (Instr.mapUpdate t (.map (some b)) (.int .i64 k) (.pointer (some ⟨g, 0, none⟩))).run Tryz.prog w = .ok () w' ∧ MapAt w' b (put l k g) ∧ Kept (Just b) w w' := by
  obtain ⟨w', hrun, hown, hg⟩ := h.1.update (int_keyed Tryz.underlying3) ht hl (keyOf_int_mk Tryz.underlying3 hk) (val := .pointer (some ⟨g, 0, none⟩)) (d := .lit (.int .i64 (g : Nat))) (ps := []) rfl
  rw [Mp_put] at hown
  exact ⟨w', hrun, ⟨own_exact hown, h.2.put k g⟩, (Kept.grown hg).mono fun x _ q => (show x = b from (Option.some.inj q).symm)⟩
theorem MapAt.drop {w : World} {b : Nat} {l : List (Int × Nat)} (h : MapAt w b l) {t e : TypeId} (ht : Tryz.prog.underlying t = some (.map 3 e)) (k : Int) (hk : (Lit.int .i64 k).wf = true) (ty : TypeId) :
    ∃ w', (Builtin.delete_ #[t, 3] ty #[.map (some b), .int .i64 k]).run Tryz.prog w = .ok (.tuple #[]) w' ∧ MapAt w' b (del l k) ∧ Kept (Just b) w w' := by
  obtain ⟨w', hrun, hown, hg⟩ := h.1.drop (int_keyed Tryz.underlying3) ht (keyOf_int_mk Tryz.underlying3 hk) ty
  rw [Mp_del] at hown
  exact ⟨w', hrun, ⟨own_exact hown, h.2.del k⟩, (Kept.grown hg.grown).mono fun x _ q => (show x = b from (Option.some.inj q).symm)⟩
end Go.Proofs.YthppgchmamonnaaGreatDoor
