/- The pool on a clean disk, nothing pinned between calls, seen by its pages' ages. -/
import Derived.Test.YthppgchmamonnaaGreatDoorPgPool14
import Derived.Test.YthppgchmamonnaaGreatDoorPgAlike
namespace Go.Proofs.YthppgchmamonnaaGreatDoor
open Go.RowKit

/-- which pages are held, when they were pinned last -/
def Pl.ages (P : Pl) : List (Int × Nat) := P.all.map fun p => (p.1, p.2.used)
def upd (l : List (Int × Nat)) (k : Int) (c : Nat) : List (Int × Nat) := l.map fun q => if q.1 = k then (k, c) else q
def without (l : List (Int × Nat)) (k : Int) : List (Int × Nat) := l.filter fun q => !(q.1 == k)
theorem upd_none {l : List (Int × Nat)} {k : Int} {c : Nat} (h : ∀ q ∈ l, q.1 ≠ k) : upd l k c = l := by
  unfold upd
  conv => rhs; rw [← List.map_id l]
  exact List.map_congr_left fun q hq => by rw [if_neg (h q hq)]; rfl
theorem without_none {l : List (Int × Nat)} {k : Int} (h : ∀ q ∈ l, q.1 ≠ k) : without l k = l :=
  List.filter_eq_self.2 fun q hq => by simpa using h q hq
theorem upd_perm (k : Int) (c : Nat) : ∀ l : List (Int × Nat), (l.map (·.1)).Nodup → (∃ u, (k, u) ∈ l) → (upd l k c).Perm (without l k ++ [(k, c)]) := by
  intro l
  induction l with
  | nil => rintro - ⟨u, hu⟩; cases hu
  | cons y r ih =>
    intro hn hm
    rw [List.map_cons, List.nodup_cons] at hn
    by_cases hy : y.1 = k
    · have hr : ∀ q ∈ r, q.1 ≠ k := fun q hq e => hn.1 (List.mem_map.2 ⟨q, hq, e.trans hy.symm⟩)
      have e1 : upd (y :: r) k c = (k, c) :: r := by
        have := upd_none (c := c) hr
        unfold upd at this ⊢
        rw [List.map_cons, if_pos hy, this]
      have e2 : without (y :: r) k = r := by
        have := without_none hr
        unfold without at this ⊢
        rw [List.filter_cons, this]
        simp [hy]
      rw [e1, e2]
      exact (List.perm_append_singleton _ _).symm
    · obtain ⟨u, hu⟩ := hm
      have hu' : (k, u) ∈ r := by
        rcases List.mem_cons.1 hu with e | e
        · exact absurd (by rw [← e]) hy
        · exact e
      have e1 : upd (y :: r) k c = y :: upd r k c := by
        unfold upd
        rw [List.map_cons, if_neg hy]
      have e2 : without (y :: r) k = y :: without r k := by
        unfold without
        rw [List.filter_cons]
        simp [hy]
      rw [e1, e2]
      exact (ih hn.2 ⟨u, hu'⟩).cons y
theorem upd_upd (l : List (Int × Nat)) (k : Int) (c : Nat) : upd (upd l k c) k c = upd l k c := by
  unfold upd
  rw [List.map_map]
  refine List.map_congr_left fun q _ => ?_
  simp only [Function.comp]
  by_cases h : q.1 = k
  · rw [if_pos h, if_pos rfl]
  · rw [if_neg h, if_neg h]
theorem Pl.ages_set (P : Pl) (k : Int) (x : Hd) : (P.set k x).ages = upd P.ages k x.used := by
  simp only [Pl.ages, Pl.set, upd, List.map_map]
  refine List.map_congr_left fun p _ => ?_
  simp only [Function.comp]
  by_cases h : p.1 = k
  · rw [if_pos h, if_pos h]
  · rw [if_neg h, if_neg h]
theorem insH_perm (k : Int) (x : Hd) : ∀ l : List (Int × Hd), (insH k x l).Perm (l ++ [(k, x)]) := by
  intro l
  induction l with
  | nil => exact List.Perm.refl _
  | cons y r ih =>
    rw [insH]
    split
    · exact (List.perm_append_singleton _ _).symm
    · exact ih.cons y
theorem Pl.ages_add (P : Pl) (k : Int) (x : Hd) : (P.add k x).ages.Perm (P.ages ++ [(k, x.used)]) := by
  have := (insH_perm k x P.all).map fun p : Int × Hd => (p.1, p.2.used)
  rw [List.map_append] at this
  exact this
theorem Pl.mem_set' {P : Pl} {k : Int} {x : Hd} {p : Int × Hd} (h : p ∈ (P.set k x).all) : p = (k, x) ∨ (p ∈ P.all ∧ p.1 ≠ k) := by
  simp only [Pl.set, List.mem_map] at h
  obtain ⟨q, hq, rfl⟩ := h
  by_cases hk : q.1 = k
  · rw [if_pos hk]; exact .inl rfl
  · rw [if_neg hk]; exact .inr ⟨hq, hk⟩

/-- the pages, the oldest first -/
structure Aged (P : Pl) (ou : List (Int × Nat)) : Prop where
  perm : P.ages.Perm ou
  inc : ou.Pairwise fun a b => a.2 < b.2
  nod : (ou.map (·.1)).Nodup
  pins : ∀ p ∈ P.all, p.2.pins = 0
theorem Aged.mem {P : Pl} {ou : List (Int × Nat)} (h : Aged P ou) {k : Int} (hk : k ∈ ou.map (·.1)) : ∃ x, (k, x) ∈ P.all ∧ (k, x.used) ∈ ou := by
  obtain ⟨q, hq, rfl⟩ := List.mem_map.1 hk
  obtain ⟨p, hp, he⟩ := List.mem_map.1 (h.perm.mem_iff.2 hq)
  obtain ⟨pk, x⟩ := p
  subst he
  exact ⟨x, hp, hq⟩
theorem Aged.none {P : Pl} {ou : List (Int × Nat)} (h : Aged P ou) {k : Int} (hk : k ∉ ou.map (·.1)) : find P.map k = Option.none := by
  rw [find_none]
  intro p hp
  obtain ⟨q, hq, rfl⟩ := List.mem_map.1 hp
  intro e
  exact hk (List.mem_map.2 ⟨(q.1, q.2.used), h.perm.mem_iff.1 (List.mem_map.2 ⟨q, hq, rfl⟩), e⟩)
theorem Aged.length {P : Pl} {ou : List (Int × Nat)} (h : Aged P ou) : P.all.length = ou.length := by
  rw [← h.perm.length_eq]; simp [Pl.ages]
theorem nodup_without {l : List (Int × Nat)} (h : (l.map (·.1)).Nodup) (k : Int) : ((without l k).map (·.1)).Nodup :=
  h.sublist (List.filter_sublist.map _)
theorem without_keys (l : List (Int × Nat)) (k : Int) : (without l k).map (·.1) = (l.map (·.1)).filter fun x => !(x == k) := by
  unfold without
  rw [List.filter_map]
  rfl
theorem nodup_snoc {l : List (Int × Nat)} {k : Int} {c : Nat} (h : (l.map (·.1)).Nodup) (hk : ∀ q ∈ l, q.1 ≠ k) : ((l ++ [(k, c)]).map (·.1)).Nodup := by
  rw [List.map_append, List.nodup_append]
  refine ⟨h, by simp, fun a ha b hb e => ?_⟩
  obtain ⟨q, hq, rfl⟩ := List.mem_map.1 ha
  simp at hb
  exact hk q hq (e.trans hb)
theorem inc_snoc {l : List (Int × Nat)} {k : Int} {c : Nat} (h : l.Pairwise fun a b => a.2 < b.2) (hk : ∀ q ∈ l, q.2 < c) : (l ++ [(k, c)]).Pairwise fun a b => a.2 < b.2 := by
  rw [List.pairwise_append]
  exact ⟨h, List.pairwise_singleton _ _, fun a ha b hb => by rw [List.mem_singleton.1 hb]; exact hk a ha⟩
/-- a page that is held is pinned, and let go -/
theorem Aged.hit {P : Pl} {ou : List (Int × Nat)} (h : Aged P ou) {k : Int} {x x2 : Hd} (hx : (k, x) ∈ P.all) (hc : ∀ q ∈ ou, q.2 ≤ P.clock) (h2 : x2.pins = 0) (h3 : x2.used = P.clock + 1) :
    Aged ((P.hit k x).set k x2) (without ou k ++ [(k, P.clock + 1)]) := by
  have hkm : (k, x.used) ∈ ou := h.perm.mem_iff.1 (List.mem_map.2 ⟨_, hx, rfl⟩)
  refine ⟨?_, inc_snoc (h.inc.filter _) fun q hq => by have := hc q (List.mem_filter.1 hq).1; omega, nodup_snoc (nodup_without h.nod k) fun q hq => by simpa using (List.mem_filter.1 hq).2, fun p hp => ?_⟩
  · rw [Pl.ages_set, Pl.hit, Pl.ages_set, h3]
    show (upd (upd P.ages k (P.clock + 1)) k (P.clock + 1)).Perm _
    rw [upd_upd]
    exact (h.perm.map _).trans (upd_perm k _ ou h.nod ⟨_, hkm⟩)
  · rcases Pl.mem_set' hp with rfl | ⟨hp, hk⟩
    · exact h2
    · rcases Pl.mem_set' hp with rfl | ⟨hp, hk⟩
      · exact absurd rfl hk
      · exact h.pins _ hp
/-- one that is not -/
theorem Aged.more {P : Pl} {ou : List (Int × Nat)} (h : Aged P ou) {k : Int} {x x2 : Hd} (hk : k ∉ ou.map (·.1)) (hc : ∀ q ∈ ou, q.2 ≤ P.clock) (h1 : x.used = P.clock + 1) (h2 : x2.pins = 0) (h3 : x2.used = P.clock + 1) :
    Aged ((P.add k x).set k x2) (ou ++ [(k, P.clock + 1)]) := by
  have hk' : ∀ q ∈ ou, q.1 ≠ k := fun q hq e => hk (List.mem_map.2 ⟨q, hq, e⟩)
  refine ⟨?_, inc_snoc h.inc fun q hq => by have := hc q hq; omega, nodup_snoc h.nod hk', fun p hp => ?_⟩
  · rw [Pl.ages_set, h3]
    refine ((Pl.ages_add P k x).map _).trans ?_
    rw [List.map_append, h1]
    have e : (P.ages.map fun q => if q.1 = k then (k, P.clock + 1) else q) = P.ages := upd_none fun q hq => hk' q (h.perm.mem_iff.1 hq)
    rw [e]
    simp only [List.map_cons, List.map_nil, if_true]
    exact h.perm.append_right _
  · rcases Pl.mem_set' hp with rfl | ⟨hp, hk⟩
    · exact h2
    · rcases insH_mem.1 hp with rfl | hp
      · exact absurd rfl hk
      · exact h.pins _ hp
theorem best_min {P : Pl} : ∀ (l : List (Int × Hd)) (acc : Option (Int × Hd)), (∀ p ∈ l, P.may p.2 = true) → (l.foldl (better P) acc = none → acc = none ∧ l = []) ∧ ∀ x, l.foldl (better P) acc = some x → (∀ y, acc = some y → x.2.used ≤ y.2.used) ∧ ∀ y ∈ l, x.2.used ≤ y.2.used := by
  intro l
  induction l with
  | nil =>
    intro acc _
    refine ⟨fun h => ⟨h, rfl⟩, fun x h => ⟨fun y hy => ?_, fun y hy => (by cases hy)⟩⟩
    have : some x = some y := h.symm.trans hy
    rw [Option.some.inj this]
    exact Nat.le_refl _
  | cons z r ih =>
    intro acc hm
    have hz := hm z (by simp)
    have ih := ih (better P acc z) fun p hp => hm p (by simp [hp])
    rw [List.foldl_cons]
    refine ⟨fun h => ?_, fun x h => ?_⟩
    · have := (ih.1 h).1
      cases acc with
      | none => rw [better_none hz] at this; cases this
      | some y => rw [better_some hz] at this; split at this <;> cases this
    · obtain ⟨i1, i2⟩ := ih.2 x h
      cases acc with
      | none =>
        rw [better_none hz] at i1
        refine ⟨fun y hy => (by cases hy), fun y hy => ?_⟩
        rcases List.mem_cons.1 hy with rfl | hy
        · exact i1 y rfl
        · exact i2 y hy
      | some a =>
        rw [better_some hz] at i1
        by_cases hu : z.2.used < a.2.used
        · rw [if_pos hu] at i1
          have := i1 z rfl
          refine ⟨fun y hy => by rw [← Option.some.inj hy]; omega, fun y hy => ?_⟩
          rcases List.mem_cons.1 hy with rfl | hy
          · exact this
          · exact i2 y hy
        · rw [if_neg hu] at i1
          have := i1 a rfl
          refine ⟨fun y hy => by rw [← Option.some.inj hy]; exact this, fun y hy => ?_⟩
          rcases List.mem_cons.1 hy with rfl | hy
          · omega
          · exact i2 y hy
/-- the oldest one goes -/
theorem Aged.oldest {P : Pl} {k0 : Int} {u0 : Nat} {r : List (Int × Nat)} (h : Aged P ((k0, u0) :: r)) (hc : ∀ p ∈ P.all, p.2.dirty = false) : (∃ x, bestOf P P.all = some (k0, x)) ∧ Aged { P with all := P.all.filter fun p => !(p.1 == k0) } r := by
  have hmay : ∀ p ∈ P.all, P.may p.2 = true := fun p hp => may_clean (h.pins p hp) (hc p hp)
  have hb := best_min P.all Option.none hmay
  have hne : P.all ≠ [] := fun e => by
    have := h.length
    rw [e] at this; simp at this
  obtain ⟨⟨bk, x⟩, hx⟩ : ∃ x, bestOf P P.all = some x := by
    cases hq : bestOf P P.all with
    | none => exact absurd (hb.1 hq).2 hne
    | some x => exact ⟨x, rfl⟩
  have hmem := (bestOf_mem P _ _ hx).1
  have hmin := (hb.2 _ hx).2
  have hin : (bk, x.used) ∈ (k0, u0) :: r := h.perm.mem_iff.1 (List.mem_map.2 ⟨_, hmem, rfl⟩)
  obtain ⟨p0, hp0, he0⟩ := List.mem_map.1 (h.perm.mem_iff.2 (List.mem_cons_self : (k0, u0) ∈ (k0, u0) :: r))
  have hle := hmin p0 hp0
  have hp0u : p0.2.used = u0 := congrArg Prod.snd he0
  have hnod := h.nod
  rw [List.map_cons, List.nodup_cons] at hnod
  have hbk : bk = k0 := by
    rcases List.mem_cons.1 hin with e | e
    · exact congrArg Prod.fst e
    · have := (List.pairwise_cons.1 h.inc).1 _ e
      simp only at this hle
      omega
  refine ⟨⟨x, by rw [hx, hbk]⟩, ⟨?_, (List.pairwise_cons.1 h.inc).2, hnod.2, fun p hp => h.pins p (List.mem_filter.1 hp).1⟩⟩
  have h1 := h.perm.filter fun q => !(q.1 == k0)
  have h2 : ((k0, u0) :: r).filter (fun q => !(q.1 == k0)) = r := by
    rw [List.filter_cons]
    simp only [beq_self_eq_true, Bool.not_true, Bool.false_eq_true, if_false]
    exact List.filter_eq_self.2 fun q hq => by
      have : q.1 ≠ k0 := fun e => hnod.1 (List.mem_map.2 ⟨q, hq, e⟩)
      simpa using this
  rw [h2] at h1
  have h3 : Pl.ages { P with all := P.all.filter fun p => !(p.1 == k0) } = P.ages.filter fun q => !(q.1 == k0) := by
    simp only [Pl.ages, List.filter_map]
    rfl
  rw [h3]
  exact h1

/-- what the ages come to when a page is pinned and let go -/
def afterPin (os : List Int) (n : Int) (room : Nat) : List Int :=
  if room < ((os.filter fun x => !(x == n)) ++ [n]).length then ((os.filter fun x => !(x == n)) ++ [n]).tail else (os.filter fun x => !(x == n)) ++ [n]
/-- A pool of ten pages on a clean disk, nothing pinned; the pages' numbers, the oldest first; X: blocks that are not the pool's. -/
def OldRel (w0 w : World) (bd b mb : Nat) (d : Dsk) (F : Nat → Prop) (room : Nat) (os : List Int) (hits reads : Nat) (X : Nat → Prop) : Prop :=
  ∃ P S ou, CleanAt w0 w bd b mb d F P S ∧ P.room = room ∧ P.pages = 10 ∧ Aged P ou ∧ ou.map (·.1) = os ∧ P.hits = hits ∧ P.reads = reads ∧ P.wrote = 0 ∧ P.clock = hits + reads ∧ (∀ q ∈ ou, q.2 ≤ P.clock) ∧ (∀ x, X x → x ≠ b ∧ x ≠ mb ∧ ¬ S x) ∧ Under X w.heap.size
theorem OldRel.kept {w0 w : World} {bd b mb : Nat} {d : Dsk} {F : Nat → Prop} {room : Nat} {os : List Int} {hits reads : Nat} {X : Nat → Prop} (h : OldRel w0 w bd b mb d F room os hits reads X) : Kept Nob w0 w := by
  obtain ⟨P, S, ou, C, r⟩ := h
  exact C.kept
theorem OldRel.nodup {w0 w : World} {bd b mb : Nat} {d : Dsk} {F : Nat → Prop} {room : Nat} {os : List Int} {hits reads : Nat} {X : Nat → Prop} (h : OldRel w0 w bd b mb d F room os hits reads X) : os.Nodup ∧ os.length ≤ room := by
  obtain ⟨P, S, ou, C, hr, -, ha, rfl, -⟩ := h
  refine ⟨ha.nod, ?_⟩
  rw [List.length_map, ← ha.length, ← hr]
  exact C.len
/-- others may turn new blocks; which are then apart, too -/
theorem OldRel.apart {w0 w w' : World} {bd b mb : Nat} {d : Dsk} {F : Nat → Prop} {room : Nat} {os : List Int} {hits reads : Nat} {X : Nat → Prop} (h : OldRel w0 w bd b mb d F room os hits reads X) (hk : Kept (From w.heap.size) w w') {Y : Nat → Prop} (hY : ∀ x, Y x → x < w'.heap.size ∧ (X x ∨ w.heap.size ≤ x)) : OldRel w0 w' bd b mb d F room os hits reads Y := by
  have hn : Kept Nob w w' := hk.mono fun x hx hf => absurd hx (Nat.not_lt.2 hf)
  obtain ⟨P, S, ou, C, h1, h2, h3, h4, h5, h6, h7, h8, h9, hX, hU⟩ := h
  refine ⟨P, S, ou, C.nob hn, h1, h2, h3, h4, h5, h6, h7, h8, h9, fun x hy => ?_, fun x hy => (hY x hy).1⟩
  rcases (hY x hy).2 with e | e
  · exact hX x e
  · have := C.pool.lt
    have := C.pool.map.lt
    exact ⟨by omega, by omega, fun hs => by have := C.pool.under x hs; omega⟩
theorem OldRel.nob {w0 w w' : World} {bd b mb : Nat} {d : Dsk} {F : Nat → Prop} {room : Nat} {os : List Int} {hits reads : Nat} {X : Nat → Prop} (h : OldRel w0 w bd b mb d F room os hits reads X) (hk : Kept Nob w w') : OldRel w0 w' bd b mb d F room os hits reads X :=
  h.apart hk.nob fun x hx => ⟨by obtain ⟨P, S, ou, C, h1, h2, h3, h4, h5, h6, h7, h8, h9, hX, hU⟩ := h; exact Nat.lt_of_lt_of_le (hU x hx) hk.size, .inl hx⟩
/-- a page is pinned; it may then be let go -/
theorem OldRel.turn {w0 w : World} {bd b mb : Nat} {d : Dsk} {F : Nat → Prop} {room : Nat} {os : List Int} {hits reads : Nat} {X : Nat → Prop} (h : OldRel w0 w bd b mb d F room os hits reads X) (hN : hits + reads ≤ 1000000) (hr : 1 ≤ room) (n : Nat) (hn : n < 10) :
    Calls Tryz.prog 12 #[.pointer (some ⟨b, 0, none⟩), .int .i64 n] w (RetPin fun w1 =>
      Calls Tryz.prog 14 #[.pointer (some ⟨b, 0, none⟩), .int .i64 n, .bool false, .int .i64 0] w1 fun e w2 => e = .returned .nilIface ∧
        OldRel w0 w2 bd b mb d F room (afterPin os n room) (hits + if (n : Int) ∈ os then 1 else 0) (reads + if (n : Int) ∈ os then 0 else 1) X ∧ Kept (fun x => ¬ X x) w w2) := by
  have hlen := h.nodup.2
  obtain ⟨P, S, ou, C, h1, h2, ha, rfl, h5, h6, h7, h8, h9, hX, hU⟩ := h
  have hkk : ∀ {x}, PoolF b mb S x → ¬ X x := fun {x} hp hx => by
    have := hX x hx
    rcases hp with e | e | e
    · exact this.1 e
    · exact this.2.1 e
    · exact this.2.2 e
  by_cases hm : (n : Int) ∈ ou.map (·.1)
  · obtain ⟨x, hx, hxo⟩ := ha.mem hm
    have hp0 := ha.pins _ hx
    simp only at hp0
    rw [if_pos hm, if_pos hm]
    refine (C.hit n x hx (by omega) (by omega) (by omega)).mono ?_
    rintro e w1 ⟨rfl, C1, hk1⟩
    refine ⟨_, rfl, ?_⟩
    have hx1 : ((n : Int), ({ x with pins := x.pins + 1, used := P.clock + 1 } : Hd)) ∈ (P.hit n x).all := by
      simp only [Pl.hit, Pl.set, List.mem_map]
      exact ⟨_, hx, if_pos rfl⟩
    refine (C1.unpin n 0 _ hx1 (by show 1 ≤ x.pins + 1; omega) (by show x.pins + 1 ≤ _; omega)).mono ?_
    rintro e w2 ⟨rfl, C2, hk2⟩
    have ha2 := ha.hit (x2 := Hd.less { x with pins := x.pins + 1, used := P.clock + 1 } false 0) hx h9 (by show x.pins + 1 - 1 = 0; omega) rfl
    have hk12 := hk1.trans' hk2
    have hwl : (without ou n).length + 1 ≤ ou.length := by
      have h1 := (upd_perm (n : Int) 0 ou ha.nod ⟨_, hxo⟩).length_eq
      unfold upd at h1
      rw [List.length_map, List.length_append] at h1
      exact Nat.le_of_eq h1.symm
    refine ⟨rfl, ⟨_, S, _, C2, h1, h2, ha2, ?_, by show P.hits + 1 = _; omega, by show P.reads = _; omega, h7, by show P.clock + 1 = _; omega, fun q hq => ?_, hX, hU.mono hk12.size⟩, hk12.mono fun x _ hp => hkk hp⟩
    · rw [List.map_append, without_keys]
      unfold afterPin
      rw [if_neg]
      · rfl
      · have e : ((ou.map (·.1)).filter fun x => !(x == (n : Int))).length = (without ou n).length := by rw [← without_keys, List.length_map]
        rw [List.length_append, e]
        rw [List.length_map] at hlen
        simp only [List.length_singleton]
        omega
    · show q.2 ≤ P.clock + 1
      rcases List.mem_append.1 hq with hq | hq
      · exact Nat.le_succ_of_le (h9 q (List.mem_filter.1 hq).1)
      · rw [List.mem_singleton.1 hq]; exact Nat.le_refl _
  · rw [if_neg hm, if_neg hm]
    have hfl : ((ou.map (·.1)).filter fun x => !(x == (n : Int))) = ou.map (·.1) := List.filter_eq_self.2 fun x hx => by
      have : x ≠ (n : Int) := fun e => hm (e ▸ hx)
      simpa using this
    have hal := ha.length
    rw [List.length_map] at hlen
    have hcl := C.clean
    have main : ∀ (ou1 : List (Int × Nat)), Aged P.roomy ou1 → (∀ q ∈ ou1, q ∈ ou) → (ou1 ++ [((n : Int), P.clock + 1)]).map (·.1) = afterPin (ou.map (·.1)) n room → (P.all.length < P.room ∨ ∃ x, bestOf P P.all = some x) →
        Calls Tryz.prog 12 #[.pointer (some ⟨b, 0, none⟩), .int .i64 n] w (RetPin fun w1 =>
      Calls Tryz.prog 14 #[.pointer (some ⟨b, 0, none⟩), .int .i64 n, .bool false, .int .i64 0] w1 fun e w2 => e = .returned .nilIface ∧
        OldRel w0 w2 bd b mb d F room (afterPin (ou.map (·.1)) n room) (hits + 0) (reads + 1) X ∧ Kept (fun x => ¬ X x) w w2) := by
      intro ou1 ha1 hsub hkeys hroom
      obtain ⟨r1, r2, r3, r4, r5, r6, r7⟩ := P.roomy_pages
      refine (C.fresh_pin n (ha.none hm) (by omega) (by omega) (by omega) hroom).mono ?_
      rintro e w1 ⟨g, pg, S', rfl, -, -, C1, hk1, hgr⟩
      refine ⟨_, rfl, ?_⟩
      refine (C1.unpin n 0 _ (insH_mem.2 (.inl rfl)) (by show 1 ≤ 1; omega) (by show 1 ≤ _; omega)).mono ?_
      rintro e w2 ⟨rfl, C2, hk2⟩
      have hm1 : (n : Int) ∉ ou1.map (·.1) := fun h => by
        obtain ⟨q, hq, e⟩ := List.mem_map.1 h
        exact hm (List.mem_map.2 ⟨q, hsub q hq, e⟩)
      have ha1' : Aged { P.roomy with reads := P.reads + 1 } ou1 := ⟨ha1.perm, ha1.inc, ha1.nod, ha1.pins⟩
      have ha2 := ha1'.more (x := ⟨g, pg, 1, false, 0, P.clock + 1⟩) (x2 := Hd.less ⟨g, pg, 1, false, 0, P.clock + 1⟩ false 0) hm1 (fun q hq => by show q.2 ≤ P.roomy.clock; rw [r3]; exact h9 q (hsub q hq)) (by show P.clock + 1 = P.roomy.clock + 1; rw [r3]) rfl (by show P.clock + 1 = P.roomy.clock + 1; rw [r3])
      have hclk : ({ P.roomy with reads := P.reads + 1 } : Pl).clock = P.clock := r3
      rw [hclk] at ha2
      have hX' : ∀ x, X x → x ≠ b ∧ x ≠ mb ∧ ¬ S' x := fun x hx => ⟨(hX x hx).1, (hX x hx).2.1, fun hs => by
        rcases hgr x hs with e | e
        · exact (hX x hx).2.2 e
        · have := hU x hx; omega⟩
      have hs1 := hk1.size
      refine ⟨rfl, ⟨_, S', _, C2, by show P.roomy.room = _; rw [r2]; exact h1, by show P.roomy.pages = _; rw [r1]; exact h2, ha2, hkeys, by show P.roomy.hits = _; omega, by show P.reads + 1 = _; omega, by show P.roomy.wrote = _; omega, by show P.roomy.clock + 1 = _; omega, fun q hq => ?_, hX', fun x hx => Nat.lt_of_lt_of_le (hU x hx) (Nat.le_trans hk1.size hk2.size)⟩, (hk1.mono fun x hx hp => ?_).trans (hk2.mono fun x hx hp => ?_) fun x _ hp => hp⟩
      · show q.2 ≤ P.roomy.clock + 1
        rw [r3]
        rcases List.mem_append.1 hq with hq | hq
        · exact Nat.le_succ_of_le (h9 q (hsub q hq))
        · rw [List.mem_singleton.1 hq]; exact Nat.le_refl _
      · intro hx'
        rcases hp with e | e
        · exact (hX x hx').1 e
        · exact (hX x hx').2.1 e
      · intro hx'
        rcases hp with e | e | e
        · exact (hX' x hx').1 e
        · exact (hX' x hx').2.1 e
        · exact (hX' x hx').2.2 e
    by_cases hl : P.all.length < P.room
    · have hro : P.roomy = P := by unfold Pl.roomy; rw [if_pos hl]
      refine main ou (by rw [hro]; exact ha) (fun q hq => hq) ?_ (.inl hl)
      unfold afterPin
      rw [hfl, if_neg, List.map_append]
      · rfl
      · rw [List.length_append, List.length_map, List.length_singleton]; omega
    · cases hou : ou with
      | nil => rw [hou] at hal; have : P.all.length = 0 := hal; omega
      | cons y r =>
        obtain ⟨k0, u0⟩ := y
        rw [hou] at ha
        obtain ⟨⟨x, hb⟩, ha3⟩ := ha.oldest hcl
        have hro : P.roomy = { P with all := P.all.filter fun p => !(p.1 == k0) } := by
          unfold Pl.roomy; rw [if_neg hl, hb]
        rw [← hou]
        refine main r (by rw [hro]; exact ha3) (fun q hq => by rw [hou]; exact List.mem_cons_of_mem _ hq) ?_ (.inr ⟨_, hb⟩)
        unfold afterPin
        rw [hfl, if_pos, hou, List.map_append]
        · rfl
        · rw [List.length_append, List.length_map, List.length_singleton]; omega
/-- the pages that are held -/
theorem OldRel.held {w0 w : World} {bd b mb : Nat} {d : Dsk} {F : Nat → Prop} {room : Nat} {os : List Int} {hits reads : Nat} {X : Nat → Prop} (h : OldRel w0 w bd b mb d F room os hits reads X) :
    Calls Tryz.prog 15 #[.pointer (some ⟨b, 0, none⟩)] w fun e w' => ∃ (a : Option Addr) (c : Nat) (hs : List Int), hs.Perm os ∧ e = .returned (.slice a os.length c) ∧ Own w' 3 (.slice a os.length c) (hs.map (Value.int .i64)) (From w.heap.size) ∧ Kept Nob w w' := by
  obtain ⟨P, S, ou, C, h1, h2, ha, rfl, r⟩ := h
  refine (pool_held w b bd mb P S C.pool (by have := C.len; have := C.room; omega)).mono ?_
  rintro e w' ⟨a, c, rfl, ho, hk⟩
  have hp : (P.all.map (·.1)).Perm (ou.map (·.1)) := by
    have := ha.perm.map (·.1)
    unfold Pl.ages at this
    rw [List.map_map] at this
    exact this
  have hl := ha.length
  refine ⟨a, c, P.all.map (·.1), hp, by rw [List.length_map, hl], ?_, hk⟩
  rw [List.length_map, ← hl, List.map_map]
  exact ho
end Go.Proofs.YthppgchmamonnaaGreatDoor
