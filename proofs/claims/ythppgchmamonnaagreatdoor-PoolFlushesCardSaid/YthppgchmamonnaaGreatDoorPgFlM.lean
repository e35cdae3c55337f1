/- PoolFlushes: the pages that the law makes; what Flush leaves of them. No program here. -/
import Derived.Test.YthppgchmamonnaaGreatDoorPgFlush
import Derived.Test.YthppgchmamonnaaGreatDoorPgPool14
namespace Go.Proofs.YthppgchmamonnaaGreatDoor
open Go.RowKit

/-- page k, put into once -/
def pageF (k : Nat) : PgM := ⟨0, k, [some [(k : Int), 7]]⟩
theorem pageF_fine (k : Nat) (hk : k < 256) : (pageF k).Fine := by
  refine ⟨⟨⟨by show (0 : Int) ≤ 0; omega, by show (0 : Int) < 256; omega⟩, ⟨by show (0 : Int) ≤ (k : Int); omega, by show (k : Int) < _; omega⟩, by simp [pageF], fun s hs => ?_, by simp [pageF, usedOf, slotLen], by simp [pageF]⟩, fun b hb => ?_⟩
  · simp only [pageF, List.mem_singleton] at hs
    rw [hs]; simp [slotLen]
  · simp only [pageF, List.mem_singleton, Option.some.injEq] at hb
    rw [hb]
    intro y hy
    simp only [List.mem_cons, List.not_mem_nil, or_false] at hy
    rcases hy with rfl | rfl <;> omega
theorem fresh_is (n i : Nat) (h : i < n) : (Dsk.fresh n).now.getD i [] = Dsk.zeroSector := by
  simp [Dsk.fresh, h]
def pageZ (k : Nat) : PgM := ⟨0, k, []⟩
theorem pageZ_fine (k : Nat) (hk : k < 256) : (pageZ k).Fine := by
  refine ⟨⟨⟨by show (0 : Int) ≤ 0; omega, by show (0 : Int) < 256; omega⟩, ⟨by show (0 : Int) ≤ (k : Int); omega, by show (k : Int) < _; omega⟩, by simp [pageZ], fun s hs => ?_, by simp [pageZ, usedOf], by simp [pageZ]⟩, fun b hb => ?_⟩
  · simp [pageZ] at hs
  · simp [pageZ] at hb
/-- the keys, with the lsns -/
def Pl.lsns (P : Pl) : List (Int × Int) := P.all.map fun p => (p.1, p.2.lsn)
/-- inside the law: i pages, each put into once, and dirty -/
structure FlAt (d : Dsk) (P : Pl) (con : Nat → PgM) (ls : Nat → Int) (i : Nat) : Prop where
  disk : d = Dsk.fresh 64
  pages : P.pages = 8
  room : P.room = 8
  clock : P.clock ≤ i
  hits : P.hits ≤ i
  reads : P.reads ≤ i
  wrote : P.wrote = 0
  mark : P.mark = 0
  lsns : P.lsns = (List.range i).map fun k : Nat => ((k : Int), ls k)
  held : ∀ p ∈ P.all, p.2.pins = 0 ∧ p.2.dirty = true ∧ con p.2.pg = pageF p.1.toNat
theorem FlAt.key {d : Dsk} {P : Pl} {con : Nat → PgM} {ls : Nat → Int} {i : Nat} (h : FlAt d P con ls i) {p : Int × Hd} (hp : p ∈ P.all) : ∃ k : Nat, k < i ∧ p.1 = k ∧ p.2.lsn = ls k := by
  have : (p.1, p.2.lsn) ∈ P.lsns := List.mem_map.2 ⟨p, hp, rfl⟩
  rw [h.lsns] at this
  obtain ⟨k, hk, e⟩ := List.mem_map.1 this
  exact ⟨k, List.mem_range.1 hk, (Prod.mk.inj e).1.symm, (Prod.mk.inj e).2.symm⟩
theorem FlAt.len {d : Dsk} {P : Pl} {con : Nat → PgM} {ls : Nat → Int} {i : Nat} (h : FlAt d P con ls i) : P.all.length = i := by
  have : P.lsns.length = i := by rw [h.lsns]; simp
  simpa [Pl.lsns] using this
theorem FlAt.none {d : Dsk} {P : Pl} {con : Nat → PgM} {ls : Nat → Int} {i : Nat} (h : FlAt d P con ls i) : find P.map (i : Int) = Option.none :=
  find_none.2 fun q hq e => by
    obtain ⟨p, hp, rfl⟩ := List.mem_map.1 hq
    obtain ⟨k, hk, e1, -⟩ := h.key hp
    simp only at e
    omega
theorem Pl.ousted_room {P : Pl} (h : P.all.length < P.room) : P.ousted = P := by unfold Pl.ousted; rw [if_pos h]
theorem Pl.oust_room {P : Pl} {con : Nat → PgM} {d : Dsk} (h : P.all.length < P.room) : P.oust con d = d := by unfold Pl.oust; rw [if_pos h]
/-- behind a round -/
theorem FlAt.more {d : Dsk} {P : Pl} {con con' : Nat → PgM} {ls : Nat → Int} {i : Nat} (h : FlAt d P con ls i) (hl : 0 ≤ ls i) (g pg : Nat) (hpg : ∀ p ∈ P.all, p.2.pg ≠ pg)
    (hc : ∀ x, con' x = if x = pg then pageF i else con x) :
    FlAt d ((Pl.add { P with reads := P.reads + 1 } i ⟨g, pg, 1, false, 0, P.clock + 1⟩).set i (Hd.less ⟨g, pg, 1, false, 0, P.clock + 1⟩ true (ls i))) con' ls (i + 1) := by
  have hk : ∀ p ∈ P.all, p.1 < (i : Int) := fun p hp => by
    obtain ⟨k, hk, e, -⟩ := h.key hp
    omega
  have hall : (Pl.add { P with reads := P.reads + 1 } i ⟨g, pg, 1, false, 0, P.clock + 1⟩).all = P.all ++ [((i : Int), ⟨g, pg, 1, false, 0, P.clock + 1⟩)] := insH_last hk
  have hset : ((Pl.add { P with reads := P.reads + 1 } i ⟨g, pg, 1, false, 0, P.clock + 1⟩).set i (Hd.less ⟨g, pg, 1, false, 0, P.clock + 1⟩ true (ls i))).all = P.all ++ [((i : Int), Hd.less ⟨g, pg, 1, false, 0, P.clock + 1⟩ true (ls i))] := by
    show List.map (fun p => if p.1 = (i : Int) then ((i : Int), Hd.less ⟨g, pg, 1, false, 0, P.clock + 1⟩ true (ls i)) else p) (Pl.add { P with reads := P.reads + 1 } i ⟨g, pg, 1, false, 0, P.clock + 1⟩).all = _
    have h0 : List.map (fun p => if p.1 = (i : Int) then ((i : Int), Hd.less ⟨g, pg, 1, false, 0, P.clock + 1⟩ true (ls i)) else p) P.all = P.all := by
      conv => rhs; rw [← List.map_id P.all]
      refine List.map_congr_left fun p hp => ?_
      have h1 := hk p hp
      have h2 : ¬ p.1 = (i : Int) := by omega
      exact if_neg h2
    rw [hall, List.map_append, h0]
    simp
  have hmax : (Hd.less ⟨g, pg, 1, false, 0, P.clock + 1⟩ true (ls i)).lsn = ls i := by
    show (if true then max 0 (ls i) else 0) = ls i
    simp only [if_true]; omega
  refine ⟨h.disk, h.pages, h.room, Nat.succ_le_succ h.clock, Nat.le_succ_of_le h.hits, Nat.succ_le_succ h.reads, h.wrote, h.mark, ?_, fun p hp => ?_⟩
  · rw [Pl.lsns, hset, List.map_append, List.range_succ, List.map_append, ← h.lsns]
    simp only [List.map_cons, List.map_nil, hmax]; rfl
  · rw [hset] at hp
    rcases List.mem_append.1 hp with hp | hp
    · obtain ⟨e1, e2, e3⟩ := h.held p hp
      exact ⟨e1, e2, by rw [hc, if_neg (hpg p hp)]; exact e3⟩
    · obtain rfl := List.mem_singleton.1 hp
      refine ⟨rfl, rfl, ?_⟩
      show con' pg = _
      rw [hc, if_pos rfl]
      show pageF i = pageF (i : Int).toNat
      rw [Int.toNat_natCast]
/-- what Flush makes of the pages -/
theorem Pl.cleaned_map : ∀ (l : List (Int × Hd)) (P : Pl), (∀ x ∈ l, x ∈ P.all) → (l.Pairwise fun p q => p.1 ≠ q.1) → (∀ p ∈ P.all, ∀ q ∈ P.all, p.1 = q.1 → p = q) →
    (Pl.cleaned l P).all = P.all.map fun p => if l.any (fun x => x.1 == p.1) then (p.1, { p.2 with dirty := false }) else p := by
  intro l
  induction l with
  | nil => intro P _ _ _; show P.all = _; simp
  | cons x r ih =>
    intro P hl hd hu
    rw [List.pairwise_cons] at hd
    have hx := hl x (by simp)
    have hmap : (Pl.cleanStep P x).all = P.all.map fun p => if p.1 = x.1 then (x.1, { x.2 with dirty := false }) else p := rfl
    have hkey : ∀ p : Int × Hd, (if p.1 = x.1 then ((x.1, { x.2 with dirty := false }) : Int × Hd) else p).1 = p.1 := fun p => by
      by_cases e : p.1 = x.1
      · rw [if_pos e]; exact e.symm
      · rw [if_neg e]
    show (Pl.cleaned r (Pl.cleanStep P x)).all = _
    rw [ih (Pl.cleanStep P x) (fun y hy => Pl.mem_set_other (hl y (List.mem_cons_of_mem _ hy)) (fun e => hd.1 y hy e.symm)) hd.2 (fun p hp q hq e => ?_), hmap, List.map_map]
    · refine List.map_congr_left fun p hp => ?_
      show (if r.any (fun y => y.1 == (if p.1 = x.1 then ((x.1, { x.2 with dirty := false }) : Int × Hd) else p).1) then _ else _) = _
      rw [hkey]
      by_cases e : p.1 = x.1
      · obtain rfl := hu p hp x hx e
        have hr : (r.any fun y => y.1 == p.1) = false := List.any_eq_false.2 fun y hy => by simpa using fun q => hd.1 y hy q.symm
        rw [hr]
        simp
      · have hxp : (x.1 == p.1) = false := by simpa using fun q => e q.symm
        simp only [if_neg e, List.any_cons, hxp, Bool.false_or]
    · rw [hmap] at hp hq
      obtain ⟨p', hp', rfl⟩ := List.mem_map.1 hp
      obtain ⟨q', hq', rfl⟩ := List.mem_map.1 hq
      rw [hkey, hkey] at e
      rw [hu p' hp' q' hq' e]
/-- behind Flush: dirty is what may not be written -/
theorem FlAt.dirty {d : Dsk} {P : Pl} {con : Nat → PgM} {ls : Nat → Int} {i : Nat} (h : FlAt d P con ls i) (m : Int) (P' : Pl) (hP : P' = { P with mark := m }) (ha : P'.ripe.Pairwise fun p q => p.1 ≠ q.1) (hu : ∀ p ∈ P.all, ∀ q ∈ P.all, p.1 = q.1 → p = q) :
    dirtyOf P'.flushP.all = ((List.range i).filter fun k => decide (m < ls k)).map fun k : Nat => Value.int .i64 k := by
  subst hP
  have h1 := Pl.cleaned_map _ { P with mark := m } (fun x hx => (Pl.ripe_mem.1 hx).1) ha hu
  have hr : ∀ p ∈ P.all, (Pl.ripe { P with mark := m }).any (fun x => x.1 == p.1) = decide (p.2.lsn ≤ m) := fun p hp => by
    by_cases hm : p.2.lsn ≤ m
    · rw [decide_eq_true hm, List.any_eq_true]
      exact ⟨p, Pl.ripe_mem.2 ⟨hp, (h.held p hp).2.1, hm⟩, beq_self_eq_true _⟩
    · rw [decide_eq_false hm, List.any_eq_false]
      intro x hx
      obtain ⟨q1, q2, q3⟩ := Pl.ripe_mem.1 hx
      simp only [beq_iff_eq, ne_eq]
      intro e
      rw [hu x q1 p hp e] at q3
      exact hm q3
  unfold dirtyOf Pl.flushP
  rw [h1]
  have h2 : ((P.all.map fun p => if (Pl.ripe { P with mark := m }).any (fun x => x.1 == p.1) then ((p.1, { p.2 with dirty := false }) : Int × Hd) else p).filter fun p => p.2.dirty) = P.all.filter fun p => decide (m < p.2.lsn) := by
    have : ∀ l : List (Int × Hd), (∀ p ∈ l, p ∈ P.all) → ((l.map fun p => if (Pl.ripe { P with mark := m }).any (fun x => x.1 == p.1) then ((p.1, { p.2 with dirty := false }) : Int × Hd) else p).filter fun p => p.2.dirty) = l.filter fun p => decide (m < p.2.lsn) := by
      intro l
      induction l with
      | nil => intro _; rfl
      | cons p r ih =>
        intro hl
        have hp := hl p (by simp)
        rw [List.map_cons, hr p hp, List.filter_cons, List.filter_cons, ih fun q hq => hl q (List.mem_cons_of_mem _ hq)]
        by_cases hm : p.2.lsn ≤ m
        · have : ¬ m < p.2.lsn := by omega
          simp [hm, this]
        · have : m < p.2.lsn := by omega
          simp [hm, this, (h.held p hp).2.1]
    exact this _ fun _ q => q
  show List.map _ (List.filter _ (List.map _ P.all)) = _
  rw [h2]
  have h3 : ((P.all.filter fun p => decide (m < p.2.lsn)).map fun p => Value.int .i64 p.1) = (P.lsns.filter fun q => decide (m < q.2)).map fun q => Value.int .i64 q.1 := by
    rw [Pl.lsns, List.filter_map, List.map_map]; rfl
  rw [h3, h.lsns, List.filter_map, List.map_map]; rfl
/-- so a disk says, behind the writes of some pages -/
theorem wrote_far (con : Nat → PgM) : ∀ (l : List (Int × Hd)) (d : Dsk) (k : Nat) (c : PgM), OnDisk d k c → (∀ p ∈ l, p.1.toNat ≠ k) → OnDisk (Dsk.wrote con l d) k c := by
  intro l
  induction l with
  | nil => intro d k c h _; exact h
  | cons x r ih =>
    intro d k c h hn
    have h1 : OnDisk (d.writes (8 * x.1.toNat) (bytesOf (con x.2.pg)) 8) k c := h.there fun e => hn x (by simp) e.symm
    rw [Dsk.wrote_cons]
    generalize d.writes (8 * x.1.toNat) (bytesOf (con x.2.pg)) 8 = d1 at *
    exact ih d1 k c h1 fun p hp => hn p (List.mem_cons_of_mem _ hp)
theorem wrote_near (con : Nat → PgM) : ∀ (l : List (Int × Hd)) (d : Dsk) (k : Nat) (c : PgM), c.ss ≠ [] → c.Good → 8 * k + 8 ≤ d.now.length → (∀ p ∈ l, p.1.toNat = k → con p.2.pg = c) → (∃ p ∈ l, p.1.toNat = k) → OnDisk (Dsk.wrote con l d) k c := by
  intro l
  induction l with
  | nil => intro d k c _ _ _ _ ⟨p, hp, _⟩; cases hp
  | cons x r ih =>
    intro d k c h1 h2 h3 h4 h5
    have hl1 := Dsk.writes_len d (8 * x.1.toNat) (bytesOf (con x.2.pg)) 8
    have hod : x.1.toNat = k → OnDisk (d.writes (8 * x.1.toNat) (bytesOf (con x.2.pg)) 8) k c := fun hx => by
      rw [hx, h4 x (by simp) hx]
      exact OnDisk.here h1 h2 h3
    rw [Dsk.wrote_cons]
    generalize d.writes (8 * x.1.toNat) (bytesOf (con x.2.pg)) 8 = d1 at *
    by_cases hr : ∃ p ∈ r, p.1.toNat = k
    · exact ih d1 k c h1 h2 (by rw [hl1]; exact h3) (fun p hp => h4 p (List.mem_cons_of_mem _ hp)) hr
    · have hx : x.1.toNat = k := by
        obtain ⟨p, hp, e⟩ := h5
        rcases List.mem_cons.1 hp with rfl | hp
        · exact e
        · exact absurd ⟨p, hp, e⟩ hr
      exact wrote_far con r d1 k c (hod hx) fun p hp e => hr ⟨p, hp, e⟩
theorem FlAt.flushed {d : Dsk} {P : Pl} {con : Nat → PgM} {ls : Nat → Int} {i : Nat} (h : FlAt d P con ls i) (hi : i ≤ 8) (m : Int) (k : Nat) (hk : k < i) : OnDisk (Pl.flushD { P with mark := m } con d) k (if ls k ≤ m then pageF k else pageZ k) := by
  have hfr : OnDisk d k (pageZ k) := .inl ⟨rfl, fun j hj => by
    rw [h.disk]
    exact fresh_is 64 _ (by omega)⟩
  have hlen : d.now.length = 64 := by rw [h.disk]; simp [Dsk.fresh]
  have hon : d.cut = false ∧ d.off = false := by rw [h.disk]; exact ⟨rfl, rfl⟩
  have hex : ls k ≤ m → ∃ p ∈ Pl.ripe { P with mark := m }, p.1.toNat = k := fun hm => by
    have : ((k : Int), ls k) ∈ P.lsns := by rw [h.lsns]; exact List.mem_map.2 ⟨k, List.mem_range.2 hk, rfl⟩
    obtain ⟨p, hp, e⟩ := List.mem_map.1 this
    obtain ⟨e1, e2⟩ := Prod.mk.inj e
    exact ⟨p, Pl.ripe_mem.2 ⟨hp, (h.held p hp).2.1, by rw [e2]; exact hm⟩, by omega⟩
  unfold Pl.flushD
  by_cases hz : Pl.ripe { P with mark := m } = []
  · rw [if_pos hz, if_neg fun hm => by obtain ⟨p, hp, -⟩ := hex hm; rw [hz] at hp; cases hp]
    exact hfr
  · rw [if_neg hz]
    refine OnDisk.synced ?_ (Dsk.wrote_on _ _ hon)
    by_cases hm : ls k ≤ m
    · rw [if_pos hm]
      refine wrote_near con _ d k _ (by simp [pageF]) (pageF_fine k (by omega)).good (by omega) (fun p hp e => ?_) (hex hm)
      rw [(h.held p (Pl.ripe_mem.1 hp).1).2.2, e]
    · rw [if_neg hm]
      refine wrote_far con _ d k _ hfr fun p hp e => hm ?_
      obtain ⟨q1, q2, q3⟩ := Pl.ripe_mem.1 hp
      obtain ⟨k', hk', e1, e2⟩ := h.key q1
      have : k' = k := by omega
      subst this
      rw [← e2]; exact q3
end Go.Proofs.YthppgchmamonnaaGreatDoor
