/- The pool on a clean disk, seen by its pages' numbers and pins. -/
import Derived.Test.YthppgchmamonnaaGreatDoorPgPool13
namespace Go.Proofs.YthppgchmamonnaaGreatDoor
open Go.RowKit

/-- which pages are held, how often they are pinned -/
def Pl.view (P : Pl) : List (Int × Nat) := P.all.map fun p => (p.1, p.2.pins)
theorem Pl.view_set (P : Pl) (k : Int) (x : Hd) : (P.set k x).view = P.view.map fun q => if q.1 = k then (k, x.pins) else q := by
  simp only [Pl.view, Pl.set, List.map_map]
  refine List.map_congr_left fun p _ => ?_
  simp only [Function.comp]
  by_cases h : p.1 = k
  · rw [if_pos h, if_pos h]
  · rw [if_neg h, if_neg h]
theorem insH_last {k : Int} {x : Hd} : ∀ {l : List (Int × Hd)}, (∀ p ∈ l, p.1 < k) → insH k x l = l ++ [(k, x)] := by
  intro l
  induction l with
  | nil => intro _; rfl
  | cons y r ih =>
    intro h
    rw [insH, if_neg (by have := h y (by simp); omega), ih fun p hp => h p (by simp [hp])]
    rfl
theorem Pl.view_add {P : Pl} {k : Int} (x : Hd) (h : ∀ q ∈ P.view, q.1 < k) : (P.add k x).view = P.view ++ [(k, x.pins)] := by
  have : insH k x P.all = P.all ++ [(k, x)] := insH_last fun p hp => h (p.1, p.2.pins) (List.mem_map.2 ⟨p, hp, rfl⟩)
  simp [Pl.view, Pl.add, this]
theorem Pl.view_none {P : Pl} {k : Int} (h : ∀ q ∈ P.view, q.1 ≠ k) : find P.map k = Option.none := by
  rw [find_none]
  intro p hp
  obtain ⟨q, hq, rfl⟩ := List.mem_map.1 hp
  exact h (q.1, q.2.pins) (List.mem_map.2 ⟨q, hq, rfl⟩)
theorem Pl.view_mem {P : Pl} {k : Int} {c : Nat} (h : (k, c) ∈ P.view) : ∃ x, (k, x) ∈ P.all ∧ x.pins = c := by
  obtain ⟨q, hq, he⟩ := List.mem_map.1 h
  obtain ⟨a, x⟩ := q
  simp only [Prod.mk.injEq] at he
  obtain ⟨rfl, rfl⟩ := he
  exact ⟨x, hq, rfl⟩
theorem may_pinned {P : Pl} {x : Hd} (h : 0 < x.pins) : P.may x = false := by
  unfold Pl.may
  rw [decide_eq_false (by omega)]; rfl
theorem may_clean {P : Pl} {x : Hd} (h : x.pins = 0) (hd : x.dirty = false) : P.may x = true := by
  unfold Pl.may
  rw [h, hd]; rfl
theorem best_skip {P : Pl} : ∀ {l : List (Int × Hd)} (acc : Option (Int × Hd)), (∀ p ∈ l, 0 < p.2.pins) → l.foldl (better P) acc = acc := by
  intro l
  induction l with
  | nil => intro _ _; rfl
  | cons y r ih =>
    intro acc h
    rw [List.foldl_cons, better_no (may_pinned (h y (by simp))), ih acc fun p hp => h p (by simp [hp])]
theorem Pl.best_none {P : Pl} (h : ∀ q ∈ P.view, 0 < q.2) : bestOf P P.all = Option.none :=
  best_skip _ fun p hp => h (p.1, p.2.pins) (List.mem_map.2 ⟨p, hp, rfl⟩)
theorem Pl.best_first {P : Pl} {k : Int} {r : List (Int × Nat)} (hv : P.view = (k, 0) :: r) (hr : ∀ q ∈ r, 0 < q.2 ∧ q.1 ≠ k) (hc : ∀ p ∈ P.all, p.2.dirty = false) : (∃ x, bestOf P P.all = some (k, x)) ∧ (P.all.filter fun p => !(p.1 == k)).map (fun p => (p.1, p.2.pins)) = r := by
  unfold Pl.view at hv
  cases hal : P.all with
  | nil => rw [hal] at hv; cases hv
  | cons y s =>
    rw [hal] at hv
    simp only [List.map_cons, List.cons.injEq] at hv
    obtain ⟨hy, hs⟩ := hv
    obtain ⟨yk, y⟩ := y
    simp only [Prod.mk.injEq] at hy
    obtain ⟨rfl, hy0⟩ := hy
    have hsp : ∀ p ∈ s, 0 < p.2.pins ∧ p.1 ≠ yk := fun p hp => hr (p.1, p.2.pins) (by rw [← hs]; exact List.mem_map.2 ⟨p, hp, rfl⟩)
    refine ⟨⟨y, ?_⟩, ?_⟩
    · rw [bestOf, List.foldl_cons, better_none (may_clean hy0 (hc _ (by rw [hal]; simp)))]
      exact best_skip _ fun p hp => (hsp p hp).1
    · rw [List.filter_cons]
      simp only [beq_self_eq_true, Bool.not_true, Bool.false_eq_true, if_false]
      rw [List.filter_eq_self.2 fun p hp => by simpa using (hsp p hp).2]
      exact hs

/-- A pool of twenty pages on a clean disk, seen so; N bounds its counts. -/
def PinsRel (w0 w : World) (bd b mb : Nat) (d : Dsk) (F : Nat → Prop) (room : Nat) (l : List (Int × Nat)) (N : Nat) : Prop :=
  ∃ P S, CleanAt w0 w bd b mb d F P S ∧ P.room = room ∧ P.pages = 20 ∧ P.view = l ∧ P.clock ≤ N ∧ P.hits ≤ N ∧ P.reads ≤ N ∧ ∀ q ∈ l, q.2 ≤ N
theorem Pl.view_length (P : Pl) : P.view.length = P.all.length := by simp [Pl.view]
theorem PinsRel.nob {w0 w w' : World} {bd b mb : Nat} {d : Dsk} {F : Nat → Prop} {room : Nat} {l : List (Int × Nat)} {N : Nat} (h : PinsRel w0 w bd b mb d F room l N) (hk : Kept Nob w w') : PinsRel w0 w' bd b mb d F room l N := by
  obtain ⟨P, S, C, r⟩ := h
  exact ⟨P, S, C.nob hk, r⟩
theorem PinsRel.kept {w0 w : World} {bd b mb : Nat} {d : Dsk} {F : Nat → Prop} {room : Nat} {l : List (Int × Nat)} {N : Nat} (h : PinsRel w0 w bd b mb d F room l N) : Kept Nob w0 w := by
  obtain ⟨P, S, C, r⟩ := h
  exact C.kept
/-- behind a Pin that is done -/
def RetPin (Q : World → Prop) (en : Ending) (w' : World) : Prop := ∃ pg, en = .returned (.tuple #[.pointer (some ⟨pg, 0, none⟩), .nilIface]) ∧ Q w'
theorem PinsRel.hit {w0 w : World} {bd b mb : Nat} {d : Dsk} {F : Nat → Prop} {room : Nat} {l : List (Int × Nat)} {N : Nat} (h : PinsRel w0 w bd b mb d F room l N) (hN : N ≤ 1000000) (k c : Nat) (hm : ((k : Int), c) ∈ l) :
    Calls Tryz.prog 12 #[.pointer (some ⟨b, 0, none⟩), .int .i64 k] w (RetPin fun w' => PinsRel w0 w' bd b mb d F room (l.map fun q => if q.1 = (k : Int) then ((k : Int), c + 1) else q) (N + 1)) := by
  obtain ⟨P, S, C, h1, h2, rfl, h4, h5, h6, h7⟩ := h
  obtain ⟨x, hx, rfl⟩ := Pl.view_mem hm
  have hp := h7 _ hm
  refine (C.hit k x hx (by omega) (by omega) (by simp at hp; omega)).mono ?_
  rintro e w' ⟨rfl, C', -⟩
  refine ⟨_, rfl, P.hit k x, S, C', h1, h2, ?_, by show P.clock + 1 ≤ _; omega, by show P.hits + 1 ≤ _; omega, by show P.reads ≤ _; omega, fun q hq => ?_⟩
  · exact Pl.view_set _ _ _
  · obtain ⟨q, hq', rfl⟩ := List.mem_map.1 hq
    by_cases hk : q.1 = (k : Int)
    · rw [if_pos hk]
      show x.pins + 1 ≤ N + 1
      simp at hp; omega
    · rw [if_neg hk]; exact Nat.le_succ_of_le (h7 q hq')
theorem PinsRel.add {w0 w : World} {bd b mb : Nat} {d : Dsk} {F : Nat → Prop} {room : Nat} {l : List (Int × Nat)} {N : Nat} (h : PinsRel w0 w bd b mb d F room l N) (hN : N ≤ 1000000) (hl : l.length < room) (k : Nat) (hk : k < 20) (hm : ∀ q ∈ l, q.1 < (k : Int)) :
    Calls Tryz.prog 12 #[.pointer (some ⟨b, 0, none⟩), .int .i64 k] w (RetPin fun w' => PinsRel w0 w' bd b mb d F room (l ++ [((k : Int), 1)]) (N + 1)) := by
  obtain ⟨P, S, C, h1, h2, rfl, h4, h5, h6, h7⟩ := h
  rw [Pl.view_length] at hl
  have hro : P.roomy = P := by unfold Pl.roomy; rw [if_pos (by omega)]
  refine (C.fresh_pin k (Pl.view_none fun q hq => by have := hm q hq; omega) (by omega) (by omega) (by omega) (.inl (by omega))).mono ?_
  rintro e w' ⟨g, pg, S', rfl, -, -, C', -, -⟩
  rw [hro] at C'
  refine ⟨_, rfl, _, S', C', h1, h2, Pl.view_add _ hm, by show P.clock + 1 ≤ _; omega, by show P.hits ≤ _; omega, by show P.reads + 1 ≤ _; omega, fun q hq => ?_⟩
  rcases List.mem_append.1 hq with hq | hq
  · exact Nat.le_succ_of_le (h7 q hq)
  · rw [List.mem_singleton.1 hq]; show 1 ≤ N + 1; omega
theorem PinsRel.full {w0 w : World} {bd b mb : Nat} {d : Dsk} {F : Nat → Prop} {room : Nat} {l : List (Int × Nat)} {N : Nat} (h : PinsRel w0 w bd b mb d F room l N) (hN : N ≤ 1000000) (hl : l.length = room) (hp : ∀ q ∈ l, 0 < q.2) (k : Nat) (hk : k < 20) (hm : ∀ q ∈ l, q.1 < (k : Int)) :
    Calls Tryz.prog 12 #[.pointer (some ⟨b, 0, none⟩), .int .i64 k] w (RetNoPage w k 8 Nob) := by
  obtain ⟨P, S, C, h1, h2, rfl, h4, h5, h6, h7⟩ := h
  rw [Pl.view_length] at hl
  exact C.full k (Pl.view_none fun q hq => by have := hm q hq; omega) (by omega) (by omega) (by omega) (Pl.best_none hp)
theorem PinsRel.turn {w0 w : World} {bd b mb : Nat} {d : Dsk} {F : Nat → Prop} {room : Nat} {r : List (Int × Nat)} {a : Nat} {N : Nat} (h : PinsRel w0 w bd b mb d F room (((a : Int), 0) :: r) N) (hN : N ≤ 1000000) (hl : r.length + 1 = room) (hr : ∀ q ∈ r, 0 < q.2 ∧ q.1 ≠ (a : Int)) (k : Nat) (hk : k < 20) (hak : a < k) (hm : ∀ q ∈ r, q.1 < (k : Int)) :
    Calls Tryz.prog 12 #[.pointer (some ⟨b, 0, none⟩), .int .i64 k] w (RetPin fun w' => PinsRel w0 w' bd b mb d F room (r ++ [((k : Int), 1)]) (N + 1)) := by
  obtain ⟨P, S, C, h1, h2, hv, h4, h5, h6, h7⟩ := h
  have hl2 := P.view_length
  rw [hv] at hl2
  obtain ⟨⟨x, hb⟩, hf⟩ := Pl.best_first hv hr C.clean
  have hro : P.roomy = { P with all := P.all.filter fun p => !(p.1 == (a : Int)) } := by
    unfold Pl.roomy; rw [if_neg (by simp at hl2; omega), hb]
  refine (C.fresh_pin k (Pl.view_none fun q hq => by
    rw [hv] at hq
    rcases List.mem_cons.1 hq with rfl | hq
    · show (a : Int) ≠ (k : Int); omega
    · have := hm q hq; omega) (by omega) (by omega) (by omega) (.inr ⟨_, hb⟩)).mono ?_
  rintro e w' ⟨g, pg, S', rfl, -, -, C', -, -⟩
  rw [hro] at C'
  refine ⟨_, rfl, _, S', C', h1, h2, ?_, by show P.clock + 1 ≤ _; omega, by show P.hits ≤ _; omega, by show P.reads + 1 ≤ _; omega, fun q hq => ?_⟩
  · rw [Pl.view_add]
    · exact congrArg (· ++ [((k : Int), 1)]) hf
    · intro q hq
      have hq : q ∈ (P.all.filter fun p => !(p.1 == (a : Int))).map (fun p => (p.1, p.2.pins)) := hq
      rw [hf] at hq
      exact hm q hq
  · rcases List.mem_append.1 hq with hq | hq
    · exact Nat.le_succ_of_le (h7 q (by simp [hq]))
    · rw [List.mem_singleton.1 hq]; show 1 ≤ N + 1; omega
theorem PinsRel.unpin {w0 w : World} {bd b mb : Nat} {d : Dsk} {F : Nat → Prop} {room : Nat} {l : List (Int × Nat)} {N : Nat} (h : PinsRel w0 w bd b mb d F room l N) (hN : N ≤ 1000000) (k c : Nat) (n : Int) (hm : ((k : Int), c) ∈ l) (hc : 1 ≤ c) :
    Calls Tryz.prog 14 #[.pointer (some ⟨b, 0, none⟩), .int .i64 k, .bool false, .int .i64 n] w fun e w' => e = .returned .nilIface ∧ PinsRel w0 w' bd b mb d F room (l.map fun q => if q.1 = (k : Int) then ((k : Int), c - 1) else q) N := by
  obtain ⟨P, S, C, h1, h2, rfl, h4, h5, h6, h7⟩ := h
  obtain ⟨x, hx, rfl⟩ := Pl.view_mem hm
  have hp := h7 _ hm
  simp only at hp
  refine (C.unpin k n x hx hc (by omega)).mono ?_
  rintro e w' ⟨rfl, C', -⟩
  refine ⟨rfl, _, S, C', h1, h2, Pl.view_set _ _ _, h4, h5, h6, fun q hq => ?_⟩
  obtain ⟨q, hq', rfl⟩ := List.mem_map.1 hq
  by_cases hk : q.1 = (k : Int)
  · rw [if_pos hk]
    show x.pins - 1 ≤ N
    omega
  · rw [if_neg hk]; exact h7 q hq'
theorem PinsRel.free {w0 w : World} {bd b mb : Nat} {d : Dsk} {F : Nat → Prop} {room : Nat} {l : List (Int × Nat)} {N : Nat} (h : PinsRel w0 w bd b mb d F room l N) (k : Nat) (hk : k < 20) (n : Int) (hm : ((k : Int), 0) ∈ l) :
    Calls Tryz.prog 14 #[.pointer (some ⟨b, 0, none⟩), .int .i64 k, .bool false, .int .i64 n] w (RetFault w opPool k 14) := by
  obtain ⟨P, S, C, h1, h2, rfl, h4, h5, h6, h7⟩ := h
  obtain ⟨x, hx, h0⟩ := Pl.view_mem hm
  exact pool_unpin_zero w b bd mb P S C.pool k (by omega) (by omega) n false x hx h0
theorem PinsRel.held {w0 w : World} {bd b mb : Nat} {d : Dsk} {F : Nat → Prop} {room : Nat} {l : List (Int × Nat)} {N : Nat} (h : PinsRel w0 w bd b mb d F room l N) :
    Calls Tryz.prog 15 #[.pointer (some ⟨b, 0, none⟩)] w fun e w' => ∃ a c, e = .returned (.slice a l.length c) ∧ Kept Nob w w' := by
  obtain ⟨P, S, C, h1, h2, rfl, h4, h5, h6, h7⟩ := h
  refine (pool_held w b bd mb P S C.pool (by have := C.len; have := C.room; omega)).mono ?_
  rintro e w' ⟨a, c, rfl, -, hk⟩
  exact ⟨a, c, by rw [Pl.view_length], hk⟩
theorem PinsRel.dirty {w0 w : World} {bd b mb : Nat} {d : Dsk} {F : Nat → Prop} {room : Nat} {l : List (Int × Nat)} {N : Nat} (h : PinsRel w0 w bd b mb d F room l N) :
    Calls Tryz.prog 16 #[.pointer (some ⟨b, 0, none⟩)] w fun e w' => ∃ a c, e = .returned (.slice a 0 c) ∧ Kept Nob w w' := by
  obtain ⟨P, S, C, h1, h2, rfl, h4, h5, h6, h7⟩ := h
  refine (pool_dirty w b bd mb P S C.pool C.kd (by have := C.len; have := C.room; omega)).mono ?_
  rintro e w' ⟨a, c, rfl, -, hk⟩
  have : dirtyOf P.all = [] := by
    unfold dirtyOf
    rw [List.filter_eq_nil_iff.2 fun p hp => by rw [C.clean p hp]; simp]; rfl
  rw [this]
  exact ⟨a, c, rfl, hk⟩
end Go.Proofs.YthppgchmamonnaaGreatDoor
