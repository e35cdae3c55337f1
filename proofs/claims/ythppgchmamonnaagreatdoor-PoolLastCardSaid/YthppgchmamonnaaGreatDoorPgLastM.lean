/- PoolLast: the pages that the law makes. No program here. -/
import Derived.Test.YthppgchmamonnaaGreatDoorPgPool23
namespace Go.Proofs.YthppgchmamonnaaGreatDoor
open Go.RowKit

/-- page k, c times put into -/
def pageL (k c : Nat) : PgM := ⟨0, k, (List.range c).map fun j : Nat => some [(k : Int), (j : Int)]⟩
theorem pageL_len (k c : Nat) : (pageL k c).ss.length = c := by simp [pageL]
theorem pageL_at (k c j : Nat) (h : j < (pageL k c).ss.length) : (pageL k c).ss[j] = some [(k : Int), (j : Int)] := by simp [pageL]
theorem pageL_free (k c : Nat) : freeIdx (pageL k c).ss = c := by
  have := freeIdx_end (ss := (pageL k c).ss) (fun j h => by rw [pageL_at]; rfl)
  rw [this, pageL_len]
theorem pageL_succ (k c : Nat) : withOf (pageL k c).ss c [(k : Int), (c : Int)] = (pageL k (c + 1)).ss := by
  unfold withOf
  rw [if_neg (by rw [pageL_len]; omega)]
  simp [pageL, List.range_succ]
theorem pageL_used (k c : Nat) : usedOf (pageL k c).ss = 16 + 6 * c := by
  have : ((pageL k c).ss.map slotLen).sum = 2 * c := by
    induction c with
    | zero => rfl
    | succ c ih =>
      rw [← pageL_succ, withOf, if_neg (by rw [pageL_len]; omega), List.map_append, List.sum_append, ih]
      simp [slotLen]; omega
  rw [usedOf, this, pageL_len]; omega
theorem pageL_fine (k c : Nat) (hk : k < 256) (hc : c ≤ 60) : (pageL k c).Fine := by
  refine ⟨⟨⟨by show (0 : Int) ≤ 0; omega, by show (0 : Int) < 256; omega⟩, ⟨by show (0 : Int) ≤ (k : Int); omega, by show (k : Int) < _; omega⟩, by rw [pageL_len]; exact hc, fun s hs => ?_, by rw [pageL_used]; omega, ?_⟩, fun b hb => ?_⟩
  · obtain ⟨j, hj, rfl⟩ := List.mem_map.1 hs
    simp [slotLen]
  · rw [List.getLast?_eq_getElem?]
    intro h
    obtain ⟨h1, h2⟩ := List.getElem?_eq_some_iff.1 h
    rw [pageL_at] at h2
    cases h2
  · obtain ⟨j, hj, e⟩ := List.mem_map.1 hb
    have hj := List.mem_range.1 hj
    rw [← Option.some.inj e]
    intro y hy
    simp only [List.mem_cons, List.not_mem_nil, or_false] at hy
    rcases hy with rfl | rfl <;> omega
theorem pageL_full (k c : Nat) : (fullIdx (pageL k c).ss (pageL k c).ss.length).length = c := by
  have : fullIdx (pageL k c).ss (pageL k c).ss.length = List.range (pageL k c).ss.length := by
    unfold fullIdx
    refine List.filter_eq_self.2 fun j hj => ?_
    have hj := List.mem_range.1 hj
    rw [List.getD_eq_getElem?_getD, List.getElem?_eq_getElem hj, pageL_at]
    rfl
  rw [this, List.length_range, pageL_len]
theorem pageL_some (k c : Nat) (h : 1 ≤ c) : (pageL k c).ss ≠ [] := fun e => by
  have := pageL_len k c
  rw [e] at this
  simp at this
  omega

theorem best_some {P : Pl} : ∀ {l : List (Int × Hd)} (acc : Option (Int × Hd)), (∀ p ∈ l, P.may p.2 = true) → (l ≠ [] ∨ acc.isSome = true) → (l.foldl (better P) acc).isSome = true := by
  intro l
  induction l with
  | nil =>
    intro acc _ h
    rcases h with h | h
    · exact absurd rfl h
    · exact h
  | cons x r ih =>
    intro acc hm _
    refine ih _ (fun p hp => hm p (List.mem_cons_of_mem _ hp)) (.inr ?_)
    have hx := hm x (by simp)
    cases acc with
    | none => rw [better_none hx]; rfl
    | some y => rw [better_some hx]; split <;> rfl
theorem best_dead {P : Pl} : ∀ {l : List (Int × Hd)} (acc : Option (Int × Hd)), (∀ p ∈ l, P.may p.2 = false) → l.foldl (better P) acc = acc := by
  intro l
  induction l with
  | nil => intro _ _; rfl
  | cons x r ih =>
    intro acc hm
    rw [List.foldl_cons, better_no (hm x (by simp))]
    exact ih acc fun p hp => hm p (List.mem_cons_of_mem _ hp)
/-- a page that was let go, put into once at least -/
def LastHeld (con : Nat → PgM) (cnt : Nat → Nat) (i : Nat) (p : Int × Hd) : Prop :=
  p.2.pins = 0 ∧ p.2.dirty = true ∧ 1 ≤ p.2.lsn ∧ p.2.lsn ≤ i ∧ 0 ≤ p.1 ∧ p.1 < 8 ∧ con p.2.pg = pageL p.1.toNat (cnt p.1.toNat) ∧ 1 ≤ cnt p.1.toNat
/-- inside the law: what the pool and the pages say behind i rounds; the log is for good up to m -/
structure LastAt (d : Dsk) (P : Pl) (con : Nat → PgM) (cnt : Nat → Nat) (i : Nat) (room : Nat) (logged : Bool) (m : Int) : Prop where
  on : d.cut = false ∧ d.off = false
  ops : d.ops ≤ 9 * (i : Int)
  len : d.now.length = 64
  pages : P.pages = 8
  room : P.room = room
  clock : P.clock ≤ i
  hits : P.hits ≤ i
  reads : P.reads ≤ i
  wrote : P.wrote ≤ i
  most : ∀ k, cnt k ≤ 20
  held : ∀ p ∈ P.all, LastHeld con cnt i p
  disk : ∀ k : Nat, k < 8 → find P.map k = none → OnDisk d k (pageL k (cnt k))
  log : logged = true → P.mark = m ∧ (i : Int) ≤ m
  nolog : logged = false → P.mark = 0 ∧ P.wrote = 0 ∧ d.ops = 0
theorem Pl.map_find {P : Pl} {k : Int} {x : Hd} (h : (k, x) ∈ P.all) : find P.map k ≠ Option.none := fun e =>
  find_none.1 e (k, x.g) (List.mem_map.2 ⟨_, h, rfl⟩) rfl
/-- a page that is held no more, or never was -/
theorem Pl.ousted_find {P : Pl} {k : Int} (h : find P.ousted.map k = Option.none) : find P.map k = Option.none ∨ ∃ x, bestOf P P.all = some (k, x) ∧ ¬ P.all.length < P.room := by
  unfold Pl.ousted at h
  by_cases hl : P.all.length < P.room
  · rw [if_pos hl] at h; exact .inl h
  · rw [if_neg hl] at h
    cases hb : bestOf P P.all with
    | none => rw [hb] at h; exact .inl h
    | some x =>
      rw [hb] at h
      by_cases hk : x.1 = k
      · obtain ⟨xk, xv⟩ := x
        simp only at hk
        subst hk
        exact .inr ⟨xv, rfl, hl⟩
      · refine .inl (find_none.2 fun q hq e => ?_)
        obtain ⟨p, hp, rfl⟩ := List.mem_map.1 hq
        simp only at e
        refine find_none.1 h (p.1, p.2.g) (List.mem_map.2 ⟨p, List.mem_filter.2 ⟨hp, ?_⟩, rfl⟩) e
        simp only [Bool.not_eq_true', beq_eq_false_iff_ne, ne_eq]
        rw [e]
        exact fun q => hk q.symm
/-- the disk behind what makes room for a page -/
theorem LastAt.oust {d : Dsk} {P : Pl} {con : Nat → PgM} {cnt : Nat → Nat} {i room : Nat} {logged : Bool} {m : Int} (L : LastAt d P con cnt i room logged m) (k : Nat) (hk : k < 8) (hf : find P.ousted.map k = none) : OnDisk (P.oust con d) k (pageL k (cnt k)) := by
  have h1 := Pl.ousted_find hf
  unfold Pl.oust
  by_cases hl : P.all.length < P.room
  · rw [if_pos hl]
    rcases h1 with h1 | ⟨x, -, h⟩
    · exact L.disk k hk h1
    · exact absurd hl h
  · rw [if_neg hl]
    cases hb : bestOf P P.all with
    | none =>
      rcases h1 with h1 | ⟨x, h, -⟩
      · exact L.disk k hk h1
      · rw [hb] at h; cases h
    | some y =>
      obtain ⟨yk, y⟩ := y
      have hm := (bestOf_mem P _ _ hb).1
      obtain ⟨e1, e2, -, -, e5, e8, e6, e7⟩ := L.held _ hm
      simp only at e2 e5 e6 e7 e8
      simp only [e2, if_true]
      refine OnDisk.synced ?_ (Dsk.writes_on L.on _ _ _)
      rw [e6]
      by_cases hyk : yk = k
      · subst hyk
        rw [Int.toNat_natCast] at *
        refine OnDisk.here (pageL_some _ _ e7) (pageL_fine _ _ (by omega) (by have := L.most k; omega)).good (by rw [L.len]; omega)
      · rcases h1 with h1 | ⟨x, h, -⟩
        · exact (L.disk k hk h1).there (by omega)
        · rw [hb] at h
          exact absurd (Prod.mk.inj (Option.some.inj h)).1 hyk
theorem LastAt.ousted {d : Dsk} {P : Pl} {con : Nat → PgM} {cnt : Nat → Nat} {i room : Nat} {logged : Bool} {m : Int} (L : LastAt d P con cnt i room logged m) :
    (P.oust con d).cut = false ∧ (P.oust con d).off = false ∧ (P.oust con d).ops ≤ d.ops + 9 ∧ (P.oust con d).now.length = 64 ∧ (bestOf P P.all = none → (P.oust con d).ops = d.ops ∧ P.ousted.wrote = P.wrote) ∧ (P.all.length < P.room → (P.oust con d).ops = d.ops ∧ P.ousted.wrote = P.wrote) := by
  unfold Pl.oust Pl.ousted
  by_cases hl : P.all.length < P.room
  · rw [if_pos hl, if_pos hl]
    exact ⟨L.on.1, L.on.2, by omega, L.len, fun _ => ⟨rfl, rfl⟩, fun _ => ⟨rfl, rfl⟩⟩
  · rw [if_neg hl, if_neg hl]
    cases hb : bestOf P P.all with
    | none => exact ⟨L.on.1, L.on.2, by show d.ops ≤ d.ops + 9; omega, L.len, fun _ => ⟨rfl, rfl⟩, fun h => absurd h hl⟩
    | some y =>
      have hm := (bestOf_mem P _ _ hb).1
      have e2 := (L.held _ hm).2.1
      simp only [e2, if_true]
      have ho := Dsk.writes_on L.on (8 * y.1.toNat) (bytesOf (con y.2.pg)) 8
      refine ⟨(Dsk.sync_on ho).1, (Dsk.sync_on ho).2, ?_, ?_, fun h => (by cases h), fun h => absurd h hl⟩
      · rw [Dsk.sync_ops ho, Dsk.writes_ops]; omega
      · rw [Dsk.sync_now ho, Dsk.writes_len]; exact L.len
theorem LastAt.may {d : Dsk} {P : Pl} {con : Nat → PgM} {cnt : Nat → Nat} {i room : Nat} {logged : Bool} {m : Int} (L : LastAt d P con cnt i room logged m) {p : Int × Hd} (hp : p ∈ P.all) : P.may p.2 = logged := by
  obtain ⟨e1, e2, e3, e4, -⟩ := L.held _ hp
  unfold Pl.may
  rw [e1, e2]
  cases logged with
  | true =>
    have := L.log rfl
    simp; omega
  | false =>
    have := (L.nolog rfl).1
    simp; omega
theorem LastAt.best {d : Dsk} {P : Pl} {con : Nat → PgM} {cnt : Nat → Nat} {i room : Nat} {logged : Bool} {m : Int} (L : LastAt d P con cnt i room logged m) (hr : 1 ≤ room) (hl : ¬ P.all.length < P.room) :
    (logged = true → ∃ x, bestOf P P.all = some x) ∧ (logged = false → bestOf P P.all = none) := by
  refine ⟨fun h => ?_, fun h => best_dead _ fun p hp => (L.may hp).trans h⟩
  have hne : P.all ≠ [] := fun e => by rw [e, L.room] at hl; simp at hl; omega
  exact Option.isSome_iff_exists.1 (best_some none (fun p hp => (L.may hp).trans h) (.inl hne))

/-- inside a round: page k is pinned -/
structure LastPin (d : Dsk) (P : Pl) (con : Nat → PgM) (cnt : Nat → Nat) (i : Nat) (room : Nat) (logged : Bool) (m : Int) (k : Nat) (x : Hd) : Prop where
  on : d.cut = false ∧ d.off = false
  ops : d.ops ≤ 9 * (i : Int) + 9
  len : d.now.length = 64
  pages : P.pages = 8
  room : P.room = room
  clock : P.clock ≤ i + 1
  hits : P.hits ≤ i + 1
  reads : P.reads ≤ i + 1
  wrote : P.wrote ≤ i + 1
  most : ∀ j, cnt j ≤ 20
  k8 : k < 8
  mem : ((k : Int), x) ∈ P.all
  pins : x.pins = 1
  lsn : x.lsn ≤ i
  page : con x.pg = pageL k (cnt k)
  held : ∀ p ∈ P.all, p = ((k : Int), x) ∨ (p.1 ≠ k ∧ LastHeld con cnt i p)
  disk : ∀ j : Nat, j < 8 → find P.map j = none → OnDisk d j (pageL j (cnt j))
  log : logged = true → P.mark = m ∧ (i : Int) + 1 ≤ m
  nolog : logged = false → P.mark = 0 ∧ P.wrote = 0 ∧ d.ops = 0
theorem Pl.set_find {P : Pl} {k : Int} {x : Hd} {j : Int} (_hk : ∃ y, (k, y) ∈ P.all) (h : find (P.set k x).map j = Option.none) : find P.map j = Option.none := by
  refine find_none.2 fun q hq e => ?_
  obtain ⟨p, hp, rfl⟩ := List.mem_map.1 hq
  simp only at e
  by_cases hpk : p.1 = k
  · refine find_none.1 h (k, x.g) (List.mem_map.2 ⟨(k, x), List.mem_map.2 ⟨p, hp, if_pos hpk⟩, rfl⟩) ?_
    simp only
    rw [← hpk]; exact e
  · exact find_none.1 h (p.1, p.2.g) (List.mem_map.2 ⟨p, List.mem_map.2 ⟨p, hp, if_neg hpk⟩, rfl⟩) e
theorem Pl.mem_set_self {P : Pl} {k : Int} {x y : Hd} (h : (k, y) ∈ P.all) : (k, x) ∈ (P.set k x).all := List.mem_map.2 ⟨(k, y), h, if_pos rfl⟩
theorem Pl.mem_set' {P : Pl} {k : Int} {x : Hd} {p : Int × Hd} (h : p ∈ (P.set k x).all) : p = (k, x) ∨ (p ∈ P.all ∧ p.1 ≠ k) := by
  simp only [Pl.set, List.mem_map] at h
  obtain ⟨q, hq, rfl⟩ := h
  by_cases hk : q.1 = k
  · rw [if_pos hk]; exact .inl rfl
  · rw [if_neg hk]; exact .inr ⟨hq, hk⟩
theorem LastAt.hit {d : Dsk} {P : Pl} {con : Nat → PgM} {cnt : Nat → Nat} {i room : Nat} {logged : Bool} {m : Int} (L : LastAt d P con cnt i room logged m) (hm : logged = true → (i : Int) + 1 ≤ m) {k : Nat} {x : Hd} (hx : ((k : Int), x) ∈ P.all) :
    LastPin d (P.hit k x) con cnt i room logged m k { x with pins := x.pins + 1, used := P.clock + 1 } := by
  obtain ⟨e1, e2, e3, e4, e5, e6, e7, e8⟩ := L.held _ hx
  simp only at e1 e2 e3 e4 e5 e6 e7 e8
  rw [Int.toNat_natCast] at e7
  refine ⟨L.on, by have := L.ops; omega, L.len, L.pages, L.room, Nat.succ_le_succ L.clock, Nat.succ_le_succ L.hits, Nat.le_succ_of_le L.reads, Nat.le_succ_of_le L.wrote, L.most, by omega, Pl.mem_set_self hx, by show x.pins + 1 = 1; omega, e4, e7, fun p hp => ?_, fun j hj hf => L.disk j hj (Pl.set_find ⟨x, hx⟩ hf), fun h => ⟨(L.log h).1, hm h⟩, L.nolog⟩
  rcases Pl.mem_set' hp with h | ⟨h1, h2⟩
  · exact .inl h
  · exact .inr ⟨h2, L.held p h1⟩
theorem Pl.add_find {P : Pl} {k : Int} {x : Hd} {j : Int} (h : find (P.add k x).map j = Option.none) : find P.map j = Option.none ∧ j ≠ k := by
  refine ⟨find_none.2 fun q hq e => ?_, fun e => ?_⟩
  · obtain ⟨p, hp, rfl⟩ := List.mem_map.1 hq
    exact find_none.1 h (p.1, p.2.g) (List.mem_map.2 ⟨p, insH_mem.2 (.inr hp), rfl⟩) e
  · exact find_none.1 h (k, x.g) (List.mem_map.2 ⟨(k, x), insH_mem.2 (.inl rfl), rfl⟩) e.symm
theorem LastAt.fresh {d : Dsk} {P : Pl} {con : Nat → PgM} {cnt : Nat → Nat} {i room : Nat} {logged : Bool} {m : Int} (L : LastAt d P con cnt i room logged m) (hm : logged = true → (i : Int) + 1 ≤ m) {k : Nat} (hk : k < 8) (hno : find P.map k = none)
    (hl : P.all.length < P.room ∨ logged = true) (g pg : Nat) (hpg : ∀ p ∈ P.all, p.2.pg ≠ pg) :
    LastPin (P.oust con d) (Pl.add { P.ousted with reads := P.reads + 1 } k ⟨g, pg, 1, false, 0, P.clock + 1⟩) (fun x => if x = pg then pageL k (cnt k) else con x) cnt i room logged m k ⟨g, pg, 1, false, 0, P.clock + 1⟩ := by
  obtain ⟨r1, r2, r3, r4, r5, r6, r7, r8, r9⟩ := P.ousted_keeps
  obtain ⟨o1, o2, o3, o4, o5, o6⟩ := L.ousted (con := con)
  have hc := L.clock
  refine ⟨⟨o1, o2⟩, by have := L.ops; omega, o4, by show P.ousted.pages = 8; rw [r1]; exact L.pages, by show P.ousted.room = room; rw [r2]; exact L.room, by show P.ousted.clock + 1 ≤ _; omega, by show P.ousted.hits ≤ _; have := L.hits; omega, by show P.reads + 1 ≤ _; have := L.reads; omega, by show P.ousted.wrote ≤ _; have := L.wrote; omega, L.most, hk, insH_mem.2 (.inl rfl), rfl, by show (0 : Int) ≤ (i : Int); omega, if_pos rfl, fun p hp => ?_, fun j hj hf => ?_, fun h => ⟨by show P.ousted.mark = m; rw [r6]; exact (L.log h).1, hm h⟩, fun h => ?_⟩
  · rcases insH_mem.1 hp with h | h
    · exact .inl h
    · have hpa := r9 p h
      refine .inr ⟨fun e => find_none.1 hno (p.1, p.2.g) (List.mem_map.2 ⟨p, hpa, rfl⟩) e, ?_⟩
      obtain ⟨e1, e2, e3, e4, e5, e6, e7, e8⟩ := L.held _ hpa
      exact ⟨e1, e2, e3, e4, e5, e6, (if_neg (hpg p hpa)).trans e7, e8⟩
  · obtain ⟨h1, h2⟩ := Pl.add_find hf
    exact L.oust j hj h1
  · obtain ⟨n1, n2, n3⟩ := L.nolog h
    have hl' : P.all.length < P.room := hl.elim id fun e => by rw [h] at e; cases e
    refine ⟨by show P.ousted.mark = 0; rw [r6]; exact n1, by show P.ousted.wrote = 0; rw [(o6 hl').2]; exact n2, by rw [(o6 hl').1]; exact n3⟩
/-- page k is put into -/
theorem LastPin.insert {d : Dsk} {P : Pl} {con : Nat → PgM} {cnt : Nat → Nat} {i room : Nat} {logged : Bool} {m : Int} {k : Nat} {x : Hd} (L : LastPin d P con cnt i room logged m k x) (hc : cnt k < 20) (hid : ∀ p ∈ P.all, (con p.2.pg).id = p.1) :
    LastPin d P (fun y => if y = x.pg then { con x.pg with ss := withOf (con x.pg).ss (freeIdx (con x.pg).ss) [(k : Int), (cnt k : Int)] } else con y) (fun j => if j = k then cnt k + 1 else cnt j) i room logged m k x := by
  refine ⟨L.on, L.ops, L.len, L.pages, L.room, L.clock, L.hits, L.reads, L.wrote, fun j => ?_, L.k8, L.mem, L.pins, L.lsn, ?_, fun p hp => ?_, fun j hj hf => ?_, L.log, L.nolog⟩
  · show (if j = k then _ else _) ≤ 20
    split
    · omega
    · exact L.most j
  · rw [if_pos rfl, if_pos rfl, L.page, pageL_free, pageL_succ]; rfl
  · rcases L.held p hp with h | ⟨h1, e1, e2, e3, e4, e5, e6, e7, e8⟩
    · exact .inl h
    · have hne : p.1.toNat ≠ k := by omega
      have hpg : p.2.pg ≠ x.pg := fun e => h1 (by rw [← hid p hp, e]; exact hid _ L.mem)
      exact .inr ⟨h1, e1, e2, e3, e4, e5, e6, (if_neg hpg).trans (e7.trans (congrArg (pageL _) (if_neg hne).symm)), Nat.le_trans e8 (Nat.le_of_eq (if_neg hne).symm)⟩
  · have hne : j ≠ k := fun e => Pl.map_find L.mem (by rw [← e]; exact hf)
    rw [if_neg hne]
    exact L.disk j hj hf
/-- and let go -/
theorem LastPin.unpin {d : Dsk} {P : Pl} {con : Nat → PgM} {cnt : Nat → Nat} {i room : Nat} {logged : Bool} {m : Int} {k : Nat} {x : Hd} (L : LastPin d P con cnt i room logged m k x) (hc : 1 ≤ cnt k) :
    LastAt d (P.set k (x.less true ((i : Int) + 1))) con cnt (i + 1) room logged m := by
  refine ⟨L.on, by have := L.ops; omega, L.len, L.pages, L.room, L.clock, L.hits, L.reads, L.wrote, L.most, fun p hp => ?_, fun j hj hf => L.disk j hj (Pl.set_find ⟨x, L.mem⟩ hf), fun h => ⟨(L.log h).1, by have := (L.log h).2; omega⟩, L.nolog⟩
  have h8 := L.k8
  rcases Pl.mem_set' hp with rfl | ⟨h, hne⟩
  · have h1 := L.pins
    have h2 := L.lsn
    refine ⟨by show x.pins - 1 = 0; omega, by show (x.dirty || true) = true; simp, ?_, ?_, by show (0 : Int) ≤ (k : Int); omega, by show (k : Int) < 8; omega, ?_, ?_⟩
    · show (1 : Int) ≤ if true then max x.lsn ((i : Int) + 1) else x.lsn
      simp only [if_true]; omega
    · show (if true then max x.lsn ((i : Int) + 1) else x.lsn) ≤ ((i + 1 : Nat) : Int)
      simp only [if_true]; omega
    · show con x.pg = pageL (k : Int).toNat (cnt (k : Int).toNat)
      rw [Int.toNat_natCast]; exact L.page
    · show 1 ≤ cnt (k : Int).toNat
      rw [Int.toNat_natCast]; exact hc
  · rcases L.held p h with e | ⟨_, e1, e2, e3, e4, e5, e6, e7, e8⟩
    · rw [e] at hne; exact absurd rfl hne
    · exact ⟨e1, e2, e3, by omega, e5, e6, e7, e8⟩
end Go.Proofs.YthppgchmamonnaaGreatDoor
