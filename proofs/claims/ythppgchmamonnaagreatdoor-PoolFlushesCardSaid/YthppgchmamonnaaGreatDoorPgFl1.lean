/- PoolFlushes: the calls inside the law. -/
import Derived.Test.YthppgchmamonnaaGreatDoorPgFlM
import Derived.Test.YthppgchmamonnaaGreatDoorPgPool13
import Derived.Test.YthppgchmamonnaaGreatDoorPgInts
namespace Go.Proofs.YthppgchmamonnaaGreatDoor
open Go.RowKit

theorem LiveAt.uniq {w0 w : World} {bd b mb : Nat} {d : Dsk} {F S K R : Nat → Prop} {P : Pl} {con : Nat → PgM} (L : LiveAt w0 w bd b mb d F P S K R con) : ∀ p ∈ P.all, ∀ q ∈ P.all, p.1 = q.1 → p = q := fun p hp q hq e => by
  obtain ⟨k, x⟩ := p
  obtain ⟨k', y⟩ := q
  simp only at e
  subst e
  rw [L.pool.one hp hq]
/-- inside the law: i rounds are done -/
def FlIn (w0 w : World) (bd b mb : Nat) (ls : Nat → Int) (i : Nat) : Prop :=
  ∃ (d : Dsk) (P : Pl) (K : Nat → Prop) (con : Nat → PgM) (Z : Nat → Prop), Live w0 w bd b mb d P K con Z ∧ FlAt d P con ls i
/-- inside a round: page i is pinned -/
def FlPin (w0 w : World) (bd b mb : Nat) (ls : Nat → Int) (i pg : Nat) (c : PgM) : Prop :=
  ∃ (d : Dsk) (P : Pl) (K : Nat → Prop) (con : Nat → PgM) (Z : Nat → Prop) (g : Nat), Live w0 w bd b mb d (Pl.add { P with reads := P.reads + 1 } i ⟨g, pg, 1, false, 0, P.clock + 1⟩) (fun x => K x ∨ x = pg) (fun x => if x = pg then c else con x) Z ∧ FlAt d P con ls i ∧ ¬ K pg ∧ ∀ p ∈ P.all, p.2.pg ≠ pg
theorem FlIn.kept {w0 w : World} {bd b mb : Nat} {ls : Nat → Int} {i : Nat} (h : FlIn w0 w bd b mb ls i) : Kept Nob w0 w := by
  obtain ⟨d, P, K, con, Z, L, h⟩ := h
  exact L.kept
theorem FlPin.kept {w0 w : World} {bd b mb : Nat} {ls : Nat → Int} {i pg : Nat} {c : PgM} (h : FlPin w0 w bd b mb ls i pg c) : Kept Nob w0 w := by
  obtain ⟨d, P, K, con, Z, g, L, h⟩ := h
  exact L.kept
theorem FlPin.nob {w0 w w' : World} {bd b mb : Nat} {ls : Nat → Int} {i pg : Nat} {c : PgM} (h : FlPin w0 w bd b mb ls i pg c) (hk : Kept Nob w w') : FlPin w0 w' bd b mb ls i pg c := by
  obtain ⟨d, P, K, con, Z, g, L, h⟩ := h
  exact ⟨d, P, K, con, Z, g, L.nob hk, h⟩
theorem FlIn.pin {w0 w : World} {bd b mb : Nat} {ls : Nat → Int} {i : Nat} (h : FlIn w0 w bd b mb ls i) (hi : i < 8) :
    Calls Tryz.prog 12 #[.pointer (some ⟨b, 0, none⟩), .int .i64 i] w fun e w' => ∃ pg, e = .returned (.tuple #[.pointer (some ⟨pg, 0, none⟩), .nilIface]) ∧ FlPin w0 w' bd b mb ls i pg (pageZ i) := by
  obtain ⟨d, P, K, con, Z, L, h⟩ := h
  have hl : P.all.length < P.room := by rw [h.len, h.room]; exact hi
  have hc := h.clock
  have hr := h.reads
  have hw := h.wrote
  have hon : d.cut = false ∧ d.off = false := by rw [h.disk]; exact ⟨rfl, rfl⟩
  have hod : OnDisk (P.oust con d) i (pageZ i) := by
    rw [Pl.oust_room hl, h.disk]
    exact .inl ⟨rfl, fun j hj => fresh_is 64 _ (by omega)⟩
  refine (L.fresh_pin i h.none (by rw [h.pages]; exact hi) (pageZ i) hod (pageZ_fine i (by omega)) rfl (by omega) (by omega) (by omega) (by rw [h.disk]; show (0 : Int) ≤ _; omega) hon (.inl hl)).mono ?_
  rintro e w' ⟨g, pg, rfl, hnK, hpg, Z', L', hg, hk⟩
  rw [Pl.ousted_room hl, Pl.oust_room hl] at L'
  exact ⟨pg, rfl, d, P, K, con, Z', g, L', h, hnK, fun p hp e => hnK (by rw [← e]; obtain ⟨F, S, R, LL, -⟩ := L; exact (LL.held p hp).1)⟩
theorem FlPin.insert {w0 w : World} {bd b mb : Nat} {ls : Nat → Int} {i pg : Nat} (h : FlPin w0 w bd b mb ls i pg (pageZ i)) (hi : i < 8) (v : Value) (G : Nat → Prop) (hv : Reads w v [.int .u8 i, .int .u8 7] G) :
    Calls Tryz.prog 24 #[.pointer (some ⟨pg, 0, none⟩), v] w fun e w' => (∃ n : Int, e = .returned (.tuple #[.int .i64 n, .nilIface])) ∧ FlPin w0 w' bd b mb ls i pg (pageF i) := by
  obtain ⟨d, P, K, con, Z, g, L, h, hnK, hpg⟩ := h
  have hfr : freeIdx (pageZ i).ss = 0 := rfl
  have hwi : withOf (pageZ i).ss 0 [(i : Int), 7] = (pageF i).ss := rfl
  refine (L.insert pg (.inr rfl) v [(i : Int), 7] G hv (by simp) (by rw [if_pos rfl, hfr]; omega) (by rw [if_pos rfl, hfr, hwi]; exact (pageF_fine i (by omega)).good.used) (fun y hy => by
    simp only [List.mem_cons, List.not_mem_nil, or_false] at hy
    rcases hy with rfl | rfl <;> omega)).mono ?_
  rintro e w' ⟨rfl, Z', L', hg, hk⟩
  refine ⟨⟨_, rfl⟩, d, P, K, con, Z', g, ?_, h, hnK, hpg⟩
  have e : (fun x => if x = pg then ({ (if pg = pg then pageZ i else con pg) with ss := withOf (if pg = pg then pageZ i else con pg).ss (freeIdx (if pg = pg then pageZ i else con pg).ss) [(i : Int), 7] } : PgM) else if x = pg then pageZ i else con x) = fun x => if x = pg then pageF i else con x := by
    funext x
    by_cases hx : x = pg
    · rw [if_pos hx, if_pos hx, if_pos rfl]; rfl
    · rw [if_neg hx, if_neg hx, if_neg hx]
  rw [← e]
  exact L'
theorem FlPin.unpin {w0 w : World} {bd b mb : Nat} {ls : Nat → Int} {i pg : Nat} (h : FlPin w0 w bd b mb ls i pg (pageF i)) (hl : 0 ≤ ls i) :
    Calls Tryz.prog 14 #[.pointer (some ⟨b, 0, none⟩), .int .i64 i, .bool true, .int .i64 (ls i)] w fun e w' => e = .returned .nilIface ∧ FlIn w0 w' bd b mb ls (i + 1) := by
  obtain ⟨d, P, K, con, Z, g, L, h, hnK, hpg⟩ := h
  refine (L.unpin i (ls i) true ⟨g, pg, 1, false, 0, P.clock + 1⟩ (insH_mem.2 (.inl rfl)) (Nat.le_refl _) (by show 1 ≤ _; omega)).mono ?_
  rintro e w' ⟨rfl, Z', L', hg, hk⟩
  exact ⟨rfl, d, _, _, _, Z', L', h.more hl g pg hpg fun x => rfl⟩
/-- behind Log -/
def FlLog (w0 w : World) (bd b mb : Nat) (ls : Nat → Int) (i : Nat) (m : Int) : Prop :=
  ∃ (d : Dsk) (P : Pl) (K : Nat → Prop) (con : Nat → PgM) (Z : Nat → Prop), Live w0 w bd b mb d { P with mark := m } K con Z ∧ FlAt d P con ls i
theorem FlIn.log {w0 w : World} {bd b mb : Nat} {ls : Nat → Int} {i : Nat} (h : FlIn w0 w bd b mb ls i) (m : Int) (hm : 0 ≤ m) :
    Calls Tryz.prog 22 #[.pointer (some ⟨b, 0, none⟩), .int .i64 m] w fun e w' => e = .returned (.tuple #[]) ∧ FlLog w0 w' bd b mb ls i m := by
  obtain ⟨d, P, K, con, Z, L, h⟩ := h
  refine (L.log m).mono ?_
  rintro e w' ⟨rfl, Z', L', hg, hk⟩
  rw [h.mark, show max 0 m = m from by omega] at L'
  exact ⟨rfl, d, P, K, con, Z', L', h⟩
/-- behind Flush: what is dirty; what the disk says, for good -/
def FlDone (w0 w : World) (bd b mb : Nat) (ls : Nat → Int) (i : Nat) (m : Int) : Prop :=
  ∃ d P K con F S R, LiveAt w0 w bd b mb d F P S K R con ∧ d.cut = false ∧ d.off = false ∧ d.ops ≤ 1000 ∧ P.wrote ≤ 1000 ∧ d.order = [] ∧ d.good.length = 64 ∧
    dirtyOf P.all = ((List.range i).filter fun k => decide (m < ls k)).map (fun k : Nat => Value.int .i64 k) ∧ ∀ k, k < i → OnDisk d k (if ls k ≤ m then pageF k else pageZ k)
theorem FlDone.nob {w0 w w' : World} {bd b mb : Nat} {ls : Nat → Int} {i : Nat} {m : Int} (h : FlDone w0 w bd b mb ls i m) (hk : Kept Nob w w') : FlDone w0 w' bd b mb ls i m := by
  obtain ⟨d, P, K, con, F, S, R, L, h⟩ := h
  exact ⟨d, P, K, con, F, S, R, L.nob hk, h⟩
theorem FlDone.kept {w0 w : World} {bd b mb : Nat} {ls : Nat → Int} {i : Nat} {m : Int} (h : FlDone w0 w bd b mb ls i m) : Kept Nob w0 w := by
  obtain ⟨d, P, K, con, F, S, R, L, h⟩ := h
  exact L.kept
theorem FlLog.flush {w0 w : World} {bd b mb : Nat} {ls : Nat → Int} {i : Nat} {m : Int} (h : FlLog w0 w bd b mb ls i m) (hi : i ≤ 8) :
    Calls Tryz.prog 21 #[.pointer (some ⟨b, 0, none⟩)] w fun e w' => e = .returned .nilIface ∧ FlDone w0 w' bd b mb ls i m := by
  obtain ⟨d, P, K, con, Z, ⟨F, S, R, L, hZ⟩, h⟩ := h
  have hon : d.cut = false ∧ d.off = false := by rw [h.disk]; exact ⟨rfl, rfl⟩
  have hops : d.ops = 0 := by rw [h.disk]; rfl
  have hw := h.wrote
  have hrl := Pl.ripe_len { P with mark := m }
  have hlen : P.all.length = i := h.len
  have hrl : (Pl.ripe { P with mark := m }).length ≤ P.all.length := hrl
  refine (L.flush (by omega) hon (by show P.wrote ≤ _; omega)).mono ?_
  rintro e w' ⟨rfl, ⟨F', L', hg⟩, hk⟩
  have hD : (Pl.flushD { P with mark := m } con d).cut = false ∧ (Pl.flushD { P with mark := m } con d).off = false ∧ (Pl.flushD { P with mark := m } con d).ops ≤ 1000 ∧ (Pl.flushD { P with mark := m } con d).order = [] := by
    unfold Pl.flushD
    by_cases hz : Pl.ripe { P with mark := m } = []
    · rw [if_pos hz]
      exact ⟨hon.1, hon.2, by omega, by rw [h.disk]; rfl⟩
    · rw [if_neg hz]
      have ho := Dsk.wrote_on con (Pl.ripe { P with mark := m }) hon
      refine ⟨(Dsk.sync_on ho).1, (Dsk.sync_on ho).2, ?_, by rw [Dsk.sync_is ho]⟩
      rw [Dsk.sync_ops ho, Dsk.wrote_ops]; omega
  refine ⟨rfl, _, _, K, con, F', S, R, L', hD.1, hD.2.1, hD.2.2.1, ?_, hD.2.2.2, ?_, h.dirty m _ rfl L.pool.apart (L.uniq), fun k hk => h.flushed hi m k hk⟩
  · show (Pl.cleaned _ _).wrote ≤ 1000
    rw [(Pl.cleaned_keeps _ _).2.2.2.2.2.2.1]
    show P.wrote + _ ≤ 1000
    omega
  · rw [← L'.disk.wf.len]
    unfold Pl.flushD
    have h64 : d.now.length = 64 := by rw [h.disk]; simp [Dsk.fresh]
    by_cases hz : Pl.ripe { P with mark := m } = []
    · rw [if_pos hz]; exact h64
    · rw [if_neg hz, Dsk.sync_now (Dsk.wrote_on con _ hon), Dsk.wrote_len]; exact h64
theorem FlDone.flush {w0 w : World} {bd b mb : Nat} {ls : Nat → Int} {i : Nat} {m : Int} (h : FlDone w0 w bd b mb ls i m) :
    Calls Tryz.prog 21 #[.pointer (some ⟨b, 0, none⟩)] w fun e w' => e = .returned .nilIface ∧ Kept Nob w0 w' := by
  obtain ⟨d, P, K, con, F, S, R, L, h1, h2, h3, h4, -⟩ := h
  refine (L.flush (by omega) ⟨h1, h2⟩ (by omega)).mono ?_
  rintro e w' ⟨rfl, ⟨F', L', hg⟩, hk⟩
  exact ⟨rfl, L'.kept⟩
theorem FlDone.dirty {w0 w : World} {bd b mb : Nat} {ls : Nat → Int} {i : Nat} {m : Int} (h : FlDone w0 w bd b mb ls i m) :
    Calls Tryz.prog 16 #[.pointer (some ⟨b, 0, none⟩)] w fun e w' => (∃ v, e = .returned v ∧ Reads w' v (((List.range i).filter fun k => decide (m < ls k)).map fun k : Nat => Value.int .i64 k) (From w.heap.size)) ∧ Kept Nob w w' := by
  obtain ⟨d, P, K, con, F, S, R, L, h1, h2, h3, h4, h5, h6, h7, h8⟩ := h
  have hl := L.len
  have hr := L.room
  refine (pool_dirty w b bd mb P S L.pool L.kd (by omega)).mono ?_
  rintro e w' ⟨a, c, rfl, ho, hk⟩
  exact ⟨⟨_, rfl, by rw [← h7]; exact ho.reads⟩, hk⟩
/-- the pages that were flushed, behind a crash -/
def FlBack (w0 w : World) (bd : Nat) (ls : Nat → Int) (i : Nat) (m : Int) : Prop :=
  ∃ d F, DiskAt w bd d F ∧ (∀ x, F x → w0.heap.size ≤ x) ∧ d.cut = false ∧ d.off = false ∧ d.ops = 0 ∧ d.good.length = 64 ∧ ∀ k, k < i → OnDisk d k (if ls k ≤ m then pageF k else pageZ k)
theorem FlDone.crash {w0 w : World} {bd b mb : Nat} {ls : Nat → Int} {i : Nat} {m : Int} (h : FlDone w0 w bd b mb ls i m) (hi : i ≤ 8) :
    Calls Tryz.prog 25 #[.pointer (some ⟨bd, 0, none⟩), .slice none 0 0, .int .i64 (-1)] w fun e w' => (∃ bc, e = .returned (.pointer (some ⟨bc, 0, none⟩)) ∧ FlBack w w' bc ls i m) ∧ Kept Nob w w' := by
  obtain ⟨d, P, K, con, F, S, R, L, h1, h2, h3, h4, h5, h6, h7, h8⟩ := h
  refine (disk_crash w bd d F L.disk (.slice none 0 0) [] Nob (.inl ⟨rfl, none, 0, rfl, fun _ => rfl⟩) (by simp) (-1)).mono ?_
  rintro e w' ⟨bc, rfl, hd, hk⟩
  have hcr : d.crash [] (-1) = ⟨d.good, d.good, [], 0, false, 0, false⟩ := by unfold Dsk.crash; rw [h5]; rfl
  rw [hcr] at hd
  refine ⟨⟨bc, rfl, _, _, hd, fun x hx => hx.1, rfl, rfl, rfl, h6, fun k hk => (h8 k hk).same fun j hj => ?_⟩, hk⟩
  exact (L.disk.wf.calm (8 * k + j) (by omega) (by rw [h5]; simp)).symm
theorem Live.tight {w0 w : World} {bd b mb : Nat} {d : Dsk} {P : Pl} {K Z : Nat → Prop} {con : Nat → PgM} (h : Live w0 w bd b mb d P K con Z) : Live w0 w bd b mb d P K con (fun x => Z x ∧ x < w.heap.size) := by
  obtain ⟨F, S, R, L, hZ⟩ := h
  refine ⟨F, S, R, L, fun x hx => ⟨hZ x hx, ?_⟩⟩
  rcases hx with e | e | e | e | e | e
  · exact L.disk.under x e
  · have := L.pool.lt; omega
  · have := L.pool.map.lt; omega
  · exact L.pool.under x e
  · exact (L.far x (.inl e)).2.2.2.2.2
  · exact (L.far x (.inr e)).2.2.2.2.2
/-- the other pool: j pages are pinned; X: blocks that are none of its -/
def FlTwo (w0 w : World) (bd b mb : Nat) (ls : Nat → Int) (i : Nat) (m : Int) (j : Nat) (X : Nat → Prop) : Prop :=
  ∃ (d : Dsk) (P : Pl) (K : Nat → Prop) (con : Nat → PgM) (Z : Nat → Prop), Live w0 w bd b mb d P K con Z ∧ (d.cut = false ∧ d.off = false) ∧ d.ops = 0 ∧ P.pages = 8 ∧ P.room = 8 ∧ P.clock ≤ j ∧ P.reads ≤ j ∧ P.wrote = 0 ∧ P.all.length = j ∧ (∀ p ∈ P.all, p.1 < (j : Int)) ∧ (∀ k, k < i → OnDisk d k (if ls k ≤ m then pageF k else pageZ k)) ∧
    (∀ x, X x → ¬ Z x ∧ w0.heap.size ≤ x ∧ x < w.heap.size) ∧ Under Z w.heap.size
theorem FlTwo.kept {w0 w : World} {bd b mb : Nat} {ls : Nat → Int} {i : Nat} {m : Int} {j : Nat} {X : Nat → Prop} (h : FlTwo w0 w bd b mb ls i m j X) : Kept Nob w0 w := by
  obtain ⟨d, P, K, con, Z, L, h⟩ := h
  exact L.kept
theorem FlTwo.away {w0 w w' : World} {bd b mb : Nat} {ls : Nat → Int} {i : Nat} {m : Int} {j : Nat} {X X' : Nat → Prop} (h : FlTwo w0 w bd b mb ls i m j X) (hk : Kept X w w') (hX : ∀ x, X' x → X x ∨ (w.heap.size ≤ x ∧ x < w'.heap.size)) : FlTwo w0 w' bd b mb ls i m j X' := by
  obtain ⟨d, P, K, con, Z, L, h1, h2, h3, h4, h5, h6, h7, h8, h9, h10, h11, h12⟩ := h
  have hs := hk.size
  have h0 := L.kept.size
  refine ⟨d, P, K, con, Z, L.away hk fun x hx => ⟨(h11 x hx).1, (h11 x hx).2.1⟩, h1, h2, h3, h4, h5, h6, h7, h8, h9, h10, fun x hx => ?_, h12.mono hs⟩
  rcases hX x hx with e | e
  · obtain ⟨e1, e2, e3⟩ := h11 x e
    exact ⟨e1, e2, by omega⟩
  · exact ⟨fun z => by have := h12 x z; omega, by omega, e.2⟩
theorem FlTwo.nob {w0 w w' : World} {bd b mb : Nat} {ls : Nat → Int} {i : Nat} {m : Int} {j : Nat} {X : Nat → Prop} (h : FlTwo w0 w bd b mb ls i m j X) (hk : Kept Nob w w') : FlTwo w0 w' bd b mb ls i m j X := h.away hk.nob fun _ h => .inl h
theorem FlBack.two {w0 w1 : World} {bd : Nat} {ls : Nat → Int} {i : Nat} {m : Int} (h : FlBack w0 w1 bd ls i m) (hk0 : Kept Nob w0 w1) :
    Calls Tryz.prog 11 #[.pointer (some ⟨bd, 0, none⟩), .int .i64 8, .int .i64 8] w1 fun e w' => ∃ b mb, e = .returned (.tuple #[.pointer (some ⟨b, 0, none⟩), .nilIface]) ∧ FlTwo w0 w' bd b mb ls i m 0 Nob := by
  obtain ⟨d, F, hd, hF, h1, h2, h3, h4, h5⟩ := h
  have hN : Calls Tryz.prog 11 #[.pointer (some ⟨bd, 0, none⟩), .int .i64 8, .int .i64 8] w1 _ := pool_new w1 bd d F hd 8 8 (by omega) (by omega) (by omega) (by omega)
  refine hN.mono ?_
  rintro e w' ⟨rfl, hp, hk⟩
  have hs := hk0.size
  have hb := hp.lt
  have hm := hp.map.lt
  have hs' := hk.size
  refine ⟨_, _, rfl, d, _, Nob, fun _ => pageZ 0, fun x => F x ∨ x = w1.heap.size + 1 ∨ x = w1.heap.size, ⟨F, (fun _ => False), Nob, ⟨hp, hd.kept hk (fun _ _ f => f), by show 8 * 8 ≤ _; omega, fun p hp => (by cases hp), fun p hp => (by cases hp), Nat.zero_le _, by show 8 ≤ 100; omega, fun x hx => hx.elim, fun p hp => (by cases hp), fun x hx => hx.elim (fun e => e.elim) (fun e => e.elim), fun f => by have := hd.under _ f; omega, fun f => by have := hd.under _ f; omega, fun _ _ f => f, ?_, hk0.then hk⟩, ?_⟩, ⟨h1, h2⟩, h3, rfl, rfl, Nat.le_refl _, Nat.le_refl _, rfl, rfl, fun p hp => (by cases hp), h5, fun x hx => hx.elim, fun x hx => ?_⟩
  · rintro x (e | e | e | e)
    · exact hF x e
    · omega
    · omega
    · exact e.elim
  · rintro x (e | e | e | e | e | e)
    · exact .inl e
    · exact .inr (.inl e)
    · exact .inr (.inr e)
    · exact e.elim
    · exact e.elim
    · exact e.elim
  · rcases hx with e | e | e
    · have := hd.under x e; omega
    · omega
    · omega
theorem FlTwo.pin {w0 w : World} {bd b mb : Nat} {ls : Nat → Int} {i : Nat} {m : Int} {j : Nat} {X : Nat → Prop} (h : FlTwo w0 w bd b mb ls i m j X) (hi : i ≤ 8) (hj : j < i) :
    Calls Tryz.prog 12 #[.pointer (some ⟨b, 0, none⟩), .int .i64 j] w fun e w' => (∃ pg, e = .returned (.tuple #[.pointer (some ⟨pg, 0, none⟩), .nilIface]) ∧ ∃ R, PageAt w' pg (if ls j ≤ m then pageF j else pageZ j) R ∧ ¬ X pg ∧ ∀ x, R x → ¬ X x) ∧ FlTwo w0 w' bd b mb ls i m (j + 1) X ∧ Kept (fun x => ¬ X x) w w' := by
  obtain ⟨d, P, K, con, Z, L, hon, ho, h1, h2, h3, h4, h5, h6, h7, h8, h9, h10⟩ := h
  have hl : P.all.length < P.room := by omega
  have hno : find P.map (j : Int) = none := find_none.2 fun q hq e => by
    obtain ⟨p, hp, rfl⟩ := List.mem_map.1 hq
    have := h7 p hp
    simp only at e
    omega
  have hfi : (if ls j ≤ m then pageF j else pageZ j).Fine := by
    split
    · exact pageF_fine j (by omega)
    · exact pageZ_fine j (by omega)
  have hid : (if ls j ≤ m then pageF j else pageZ j).id = (j : Int) := by split <;> rfl
  refine (L.fresh_pin j hno (by omega) _ (by rw [Pl.oust_room hl]; exact h8 j hj) hfi hid (by omega) (by omega) (by omega) (by omega) hon (.inl hl)).mono ?_
  rintro e w' ⟨g, pg, rfl, hnK, hpg, Z', L', hg, hk⟩
  rw [Pl.ousted_room hl, Pl.oust_room hl] at L'
  have hs := hk.size
  refine ⟨⟨pg, rfl, ?_⟩, ⟨d, _, _, _, _, L'.tight, hon, ho, h1, h2, Nat.succ_le_succ h3, Nat.succ_le_succ h4, h5, ?_, fun p hp => ?_, h8, fun x hx => ?_, fun x hx => hx.2⟩, hk.mono fun x _ hz hx => (h9 x hx).1 hz⟩
  · obtain ⟨F, S, R, LL, hZZ⟩ := L'
    have := (LL.page pg (.inr rfl)).1
    simp only [if_true] at this
    have hn : ∀ x, Z' x → ¬ X x := fun x z hx => by
      obtain ⟨e1, e2, e3⟩ := h9 x hx
      rcases hg x z with e | e
      · exact e1 e
      · omega
    exact ⟨R, this, hn pg (hZZ pg (.inr (.inr (.inr (.inr (.inl (.inr rfl))))))), fun x hx => hn x (hZZ x (.inr (.inr (.inr (.inr (.inr hx))))))⟩
  · show (insH _ _ _).length = _
    rw [insH_length]
    exact congrArg (· + 1) h6
  · rcases insH_mem.1 hp with rfl | hp
    · show (j : Int) < ((j + 1 : Nat) : Int)
      omega
    · have := h7 p hp
      omega
  · obtain ⟨e1, e2, e3⟩ := h9 x hx
    exact ⟨fun z => (hg x z.1).elim e1 fun q => by omega, e2, by omega⟩
end Go.Proofs.YthppgchmamonnaaGreatDoor
