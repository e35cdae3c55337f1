/- The pool with its pages' contents: evict, Pin of a page that is not held. -/
import Derived.Test.YthppgchmamonnaaGreatDoorPgPool22
namespace Go.Proofs.YthppgchmamonnaaGreatDoor
open Go.RowKit

theorem Dsk.goes_on {d : Dsk} (h : d.cut = false ∧ d.off = false) : d.goes = true := by unfold Dsk.goes; rw [h.1, h.2]; rfl
theorem Dsk.begun_on {d : Dsk} (h : d.cut = false ∧ d.off = false) : d.begun.cut = false ∧ d.begun.off = false := by
  refine ⟨h.1, ?_⟩
  show (!d.goes) = false
  rw [Dsk.goes_on h]; rfl
theorem Dsk.writes_on {d : Dsk} (h : d.cut = false ∧ d.off = false) (s : Nat) (ys : List Int) (j : Nat) : (d.writes s ys j).cut = false ∧ (d.writes s ys j).off = false := by
  induction j with
  | zero => exact h
  | succ j ih => rw [Dsk.writes]; exact Dsk.begun_on ih
theorem Dsk.sync_is {d : Dsk} (h : d.cut = false ∧ d.off = false) : d.sync.1 = { d.begun with good := Dsk.settle d.now d.order d.good, order := [] } := by
  unfold Dsk.sync; rw [if_pos (Dsk.goes_on h)]
theorem Dsk.sync_on {d : Dsk} (h : d.cut = false ∧ d.off = false) : d.sync.1.cut = false ∧ d.sync.1.off = false := by rw [Dsk.sync_is h]; exact Dsk.begun_on h
theorem Dsk.sync_now {d : Dsk} (h : d.cut = false ∧ d.off = false) : d.sync.1.now = d.now := by rw [Dsk.sync_is h]; rfl
theorem Dsk.sync_ops {d : Dsk} (h : d.cut = false ∧ d.off = false) : d.sync.1.ops = d.ops + 1 := by rw [Dsk.sync_is h]; rfl
theorem flat_same {now now' : List (List Value)} {s : Nat} : ∀ n, (∀ i, i < n → now'.getD (s + i) [] = now.getD (s + i) []) → Wal.flat now' s n = Wal.flat now s n := by
  intro n
  induction n with
  | zero => intro _; rfl
  | succ n ih => intro h; rw [Wal.flat, Wal.flat, ih (fun i hi => h i (by omega)), h n (by omega)]
theorem OnDisk.same {d d' : Dsk} {k : Nat} {c : PgM} (h : OnDisk d k c) (hn : ∀ i, i < 8 → d'.now.getD (8 * k + i) [] = d.now.getD (8 * k + i) []) : OnDisk d' k c := by
  rcases h with ⟨h1, h2⟩ | ⟨h1, h2⟩
  · exact .inl ⟨h1, fun i hi => by rw [hn i hi]; exact h2 i hi⟩
  · exact .inr ⟨h1, by rw [flat_same 8 hn]; exact h2⟩
/-- a page that was written lies there; the others as they did -/
theorem OnDisk.here {d : Dsk} {k : Nat} {c : PgM} (hc : c.ss ≠ []) (hg : c.Good) (hk : 8 * k + 8 ≤ d.now.length) : OnDisk (d.writes (8 * k) (bytesOf c) 8) k c :=
  .inr ⟨hc, flat_writes d (8 * k) _ (bytesOf_length c hg.used) hk⟩
theorem OnDisk.there {d : Dsk} {k j : Nat} {c : PgM} {ys : List Int} (h : OnDisk d j c) (hne : j ≠ k) : OnDisk (d.writes (8 * k) ys 8) j c :=
  h.same fun i hi => Dsk.writes_far d (8 * k) ys (8 * j + i) 8 (by omega)
theorem OnDisk.synced {d : Dsk} {j : Nat} {c : PgM} (h : OnDisk d j c) (hon : d.cut = false ∧ d.off = false) : OnDisk d.sync.1 j c :=
  h.same fun i _ => by rw [Dsk.sync_now hon]

/-- behind what makes room -/
def Pl.ousted (P : Pl) : Pl := if P.all.length < P.room then P else match bestOf P P.all with
  | Option.none => P
  | Option.some x => { P with wrote := if x.2.dirty then P.wrote + 1 else P.wrote, all := P.all.filter fun p => !(p.1 == x.1) }
def Pl.oust (P : Pl) (con : Nat → PgM) (d : Dsk) : Dsk := if P.all.length < P.room then d else match bestOf P P.all with
  | Option.none => d
  | Option.some x => if x.2.dirty then (d.writes (8 * x.1.toNat) (bytesOf (con x.2.pg)) 8).sync.1 else d
theorem Pl.ousted_keeps (P : Pl) : P.ousted.pages = P.pages ∧ P.ousted.room = P.room ∧ P.ousted.clock = P.clock ∧ P.ousted.hits = P.hits ∧ P.ousted.reads = P.reads ∧ P.ousted.mark = P.mark ∧ P.ousted.wrote ≤ P.wrote + 1 ∧ P.ousted.all.length ≤ P.all.length ∧ ∀ p ∈ P.ousted.all, p ∈ P.all := by
  unfold Pl.ousted
  split
  · exact ⟨rfl, rfl, rfl, rfl, rfl, rfl, by omega, Nat.le_refl _, fun _ h => h⟩
  · split
    · exact ⟨rfl, rfl, rfl, rfl, rfl, rfl, by omega, Nat.le_refl _, fun _ h => h⟩
    · refine ⟨rfl, rfl, rfl, rfl, rfl, rfl, ?_, List.length_filter_le _ _, fun p h => (List.mem_filter.1 h).1⟩
      show (if _ then P.wrote + 1 else P.wrote) ≤ P.wrote + 1
      split
      · exact Nat.le_refl _
      · exact Nat.le_succ _
theorem Pl.ousted_none {P : Pl} {k : Int} (h : find P.map k = Option.none) : find P.ousted.map k = Option.none := by
  unfold Pl.ousted
  split
  · exact h
  · split
    · exact h
    · exact find_filter _ h

theorem filter_less {l : List (Int × Hd)} {x : Int × Hd} (hx : x ∈ l) : (l.filter fun p => !(p.1 == x.1)).length < l.length := by
  rcases Nat.lt_or_ge (l.filter fun p => !(p.1 == x.1)).length l.length with h | h
  · exact h
  · have h2 := List.length_filter_eq_length_iff.1 (Nat.le_antisymm (List.length_filter_le _ _) h) x hx
    simp at h2
theorem LiveAt.evict {w0 w : World} {bd b mb : Nat} {d : Dsk} {F S K R : Nat → Prop} {P : Pl} {con : Nat → PgM} (L : LiveAt w0 w bd b mb d F P S K R con) (hc : P.clock ≤ 1000000000000) (hw : P.wrote ≤ 1000000000000) (ho : d.ops ≤ 1000000000) (hon : d.cut = false ∧ d.off = false)
    (hm : P.all.length < P.room ∨ ∃ x, bestOf P P.all = some x) :
    Calls Tryz.prog 35 #[.pointer (some ⟨b, 0, none⟩)] w fun e w' => e = .returned .nilIface ∧ (∃ F', LiveAt w0 w' bd b mb (P.oust con d) F' P.ousted S K R con ∧ Grows F w.heap.size F') ∧ Kept (fun x => F x ∨ x = b ∨ x = mb) w w' ∧ P.ousted.all.length < P.room := by
  by_cases hl : P.all.length < P.room
  · refine (pool_evict_room w b bd mb P S L.pool hl L.room).mono ?_
    rintro e w' ⟨rfl, n, rfl⟩
    have e : P.ousted = P := by unfold Pl.ousted; rw [if_pos hl]
    have e2 : P.oust con d = d := by unfold Pl.oust; rw [if_pos hl]
    rw [e, e2]
    exact ⟨rfl, ⟨F, L.nob (Kept.drewN _ _ _), Grows.refl _ _⟩, (Kept.drewN _ _ _), hl⟩
  · obtain ⟨x, hx⟩ : ∃ x, bestOf P P.all = some x := by
      rcases hm with h | h
      · exact absurd h hl
      · exact h
    have hxm := (bestOf_mem P _ _ hx).1
    have hlt := filter_less hxm
    have hlen := L.len
    have hrm := L.room
    obtain ⟨xk, xv⟩ := x
    have hxk := L.keyed _ hxm
    simp only at hxk
    cases hdy : xv.dirty with
    | false =>
      have e : P.ousted = { P with all := P.all.filter fun p => !(p.1 == xk) } := by unfold Pl.ousted; rw [if_neg hl, hx]; simp only [hdy]; rfl
      have e2 : P.oust con d = d := by unfold Pl.oust; rw [if_neg hl, hx]; simp only [hdy]; rfl
      refine (pool_evict_full w b bd mb P S L.pool L.kd (by omega) (by omega) (fun p hp => Nat.le_trans (L.used p hp) hc) (fun y hy => by rw [hx] at hy; rw [← Option.some.inj hy]; exact hdy)).mono ?_
      rintro e' w' ⟨-, h⟩
      obtain ⟨rfl, hp, hk⟩ := h _ hx
      rw [e, e2]
      refine ⟨rfl, ⟨F, L.turn hp hk (fun y _ h => .inr (.inl h)) rfl rfl (fun p hp => L.keyed p (List.mem_filter.1 hp).1) (fun p hp => L.used p (List.mem_filter.1 hp).1) ?_ (fun p hp => L.held p (List.mem_filter.1 hp).1), Grows.refl _ _⟩, hk.mono fun y _ q => .inr (.inr q), ?_⟩
      · exact Nat.le_trans (List.length_filter_le _ _) L.len
      · exact Nat.lt_of_lt_of_le hlt L.len
    | true =>
      have e : P.ousted = { P with wrote := P.wrote + 1, all := P.all.filter fun p => !(p.1 == xk) } := by unfold Pl.ousted; rw [if_neg hl, hx]; simp only [hdy]; rfl
      have e2 : P.oust con d = (d.writes (8 * xk.toNat) (bytesOf (con xv.pg)) 8).sync.1 := by unfold Pl.oust; rw [if_neg hl, hx]; simp only [hdy]; rfl
      obtain ⟨hKp, hid⟩ := L.held _ hxm
      obtain ⟨hpa, hfi⟩ := L.page _ hKp
      have hpgs := L.pages
      have hfit := L.fit
      have hxe : ((xk.toNat : Nat) : Int) = xk := by omega
      have hWr : ∀ W, Kept Nob w W → Calls Tryz.prog 42 #[.pointer (some ⟨b, 0, none⟩), .int .i64 xk] W (RetWrite W bd (d.writes (8 * xk.toNat) (bytesOf (con xv.pg)) 8) F) := fun W q => by
        have := pool_write W b bd mb P S (L.pool.nob q) L.kd xk.toNat xv (by rw [hxe]; exact hxm) (by omega) (con xv.pg) R (hpa.kept q (fun f => f) (fun _ _ f => f)) ⟨hfi.good.len, fun s hs => Nat.le_trans (hfi.good.size s hs) (by omega)⟩ hfi.good.used d F (L.disk.kept q (fun _ _ f => f)) L.Fb (by omega) (by omega) (fun j _ => Dsk.goes_on (Dsk.writes_on hon _ _ j))
        rw [hxe] at this
        exact this
      refine (pool_evict_dirty w b bd mb P S L.pool L.kd (by omega) (by omega) (fun p hp => Nat.le_trans (L.used p hp) hc) xk xv hx hdy _ F L.disk.under L.Fb L.Fm L.FS (by rw [Dsk.writes_ops]; omega) (Dsk.goes_on (Dsk.writes_on hon _ _ _)) hw hWr).mono ?_
      rintro e' w' ⟨rfl, hp, ⟨F', hd, hg⟩, hk⟩
      rw [e, e2]
      refine ⟨rfl, ⟨F', L.next hp hd hk hg (Grows.refl _ _) (fun y hf hs => ?_) (fun y _ q => ?_) ?_ rfl rfl (fun p hp => L.keyed p (List.mem_filter.1 hp).1) (fun p hp => L.used p (List.mem_filter.1 hp).1) ?_ (fun p hp => L.held p (List.mem_filter.1 hp).1), hg⟩, hk, ?_⟩
      · rcases hg y hf with f | f
        · exact L.FS y f hs
        · have := L.pool.under y hs; omega
      · rcases q with q | q | q
        · exact .inl q
        · exact .inr (.inl q)
        · exact .inr (.inr (.inl q))
      · rw [← hd.wf.len, ← L.disk.wf.len, Dsk.sync_now (Dsk.writes_on hon _ _ _), Dsk.writes_len]
      · exact Nat.le_trans (List.length_filter_le _ _) L.len
      · exact Nat.lt_of_lt_of_le hlt L.len
theorem pool_read_any (w : World) (b bd mb : Nat) (P : Pl) (S : Nat → Prop) (h : PoolAt w b bd mb P S) (d : Dsk) (F : Nat → Prop) (hD : DiskAt w bd d F) (k : Nat) (hk : 8 * k + 8 ≤ d.good.length) (c : PgM) (ho : OnDisk d k c) (hf : c.Fine) (hid : c.id = (k : Int)) (hr : P.reads ≤ 1000000000000) :
    Calls Tryz.prog 36 #[.pointer (some ⟨b, 0, none⟩), .int .i64 k] w (RetPageOf w b bd mb P S c) := by
  rcases ho with ⟨rfl, h2⟩ | ⟨h1, h2⟩
  · refine (pool_read_zero w b bd mb P S h d F hD k hk h2 hr).mono ?_
    rintro e w' ⟨pg, rfl, h1, h3, h4, h5⟩
    exact ⟨pg, rfl, h1, ⟨_, h3, SlotsAt.nil _ _, fun q => q.2 rfl⟩, h4, h5⟩
  · exact pool_read_page w b bd mb P S h d F hD k hk c h2 (parseOf_bytesOf c hf.good) (bytesOf_length c hf.good.used) (bytesOf_inB c hf.bytes) (bytesOf_some c hf.good h1) hid hr

theorem Live.fresh_pin {w0 w : World} {bd b mb : Nat} {d : Dsk} {P : Pl} {K Z : Nat → Prop} {con : Nat → PgM} (h : Live w0 w bd b mb d P K con Z) (k : Nat) (hno : find P.map k = none) (hkp : k < P.pages) (c : PgM) (hod : OnDisk (P.oust con d) k c) (hf : c.Fine) (hid : c.id = (k : Int))
    (hc : P.clock ≤ 1000000000) (hr : P.reads ≤ 1000000000) (hw : P.wrote ≤ 1000000000) (ho : d.ops ≤ 1000000000) (hon : d.cut = false ∧ d.off = false) (hm : P.all.length < P.room ∨ ∃ x, bestOf P P.all = some x) :
    Calls Tryz.prog 12 #[.pointer (some ⟨b, 0, none⟩), .int .i64 k] w fun e w' => ∃ g pg,
      e = .returned (.tuple #[.pointer (some ⟨pg, 0, none⟩), .nilIface]) ∧ ¬ K pg ∧ w.heap.size ≤ pg ∧ LiveTo w0 w bd b mb Z (P.oust con d) (Pl.add { P.ousted with reads := P.reads + 1 } k ⟨g, pg, 1, false, 0, P.clock + 1⟩) (fun x => K x ∨ x = pg) (fun x => if x = pg then c else con x) w' := by
  obtain ⟨F, S, R, L, hZ⟩ := h
  obtain ⟨r1, r2, r3, r4, r5, r6, r7, r8, r9⟩ := P.ousted_keeps
  have hno2 := Pl.ousted_none hno
  have hpg := L.pages
  have hlen := L.len
  have hrm := L.room
  refine (pool_pin_new w b bd mb P S L.pool k hno hkp (by omega) (fun P2 S2 pg w2 => P2 = { P.ousted with reads := P.reads + 1 } ∧ S2 = S ∧ w.heap.size ≤ pg ∧ ¬ K pg ∧ w.heap.size ≤ w2.heap.size ∧ (∃ F' R', LiveAt w0 w2 bd b mb (P.oust con d) F' P2 S2 (fun x => K x ∨ x = pg) R' (fun x => if x = pg then c else con x) ∧ Grows F w.heap.size F' ∧ Grows R w.heap.size R') ∧ P2.all.length < P2.room ∧ Kept (fun x => F x ∨ x = b ∨ x = mb) w w2) ?_).mono ?_
  · refine Lib.hid ((L.evict (by omega) (by omega) ho hon hm).mono ?_)
    rintro e w1 ⟨rfl, ⟨F1, L1, hg1⟩, hk1, hl1⟩
    have hs1 := hk1.size
    refine ⟨rfl, (pool_read_any w1 b bd mb P.ousted S L1.pool _ F1 L1.disk k (by have := L1.fit; omega) c hod hf hid (by rw [r5]; omega)).mono ?_⟩
    rintro e w2 ⟨pg, rfl, hpg2, hpa, hp2, hk2⟩
    rw [r5] at hp2
    have L2 := L1.turn hp2 hk2 (fun x _ h => .inl h) rfl rfl L1.keyed L1.used L1.len L1.held
    have hs2 := hk2.size
    have hold : ∀ x, (K x ∨ R x) → x < w1.heap.size := fun x hx => (L1.far x hx).2.2.2.2.2
    have hb1 := L1.pool.lt
    have hm1 := L1.pool.map.lt
    have hs0 := L1.kept.size
    have hfar : ∀ x, w1.heap.size ≤ x → x < w2.heap.size → ¬ F1 x ∧ x ≠ b ∧ x ≠ mb ∧ ¬ S x ∧ w0.heap.size ≤ x ∧ x < w2.heap.size := fun x h1 h2 =>
      ⟨fun f => by have := L1.disk.under x f; omega, by omega, by omega, fun f => by have := L1.pool.under x f; omega, by omega, h2⟩
    have L3 := L2.more (c := c) (R2 := fun x => (w1.heap.size ≤ x ∧ x ≠ pg) ∧ x < w2.heap.size) (hpa.mono (fun x hx q => ⟨q, hx⟩) (fun q => q.1.2 rfl)) hf (fun x hx => by
      rcases hx with rfl | hx
      · exact hfar x hpg2 hpa.lt
      · exact hfar x hx.1.1 hx.2) (fun q => by have := hold pg (.inl q); omega) (fun q => by have := hold pg (.inr q); omega) (fun x hx q => by have := hold x (.inl q); omega)
    refine ⟨_, S, pg, rfl, hp2, ⟨rfl, rfl, by omega, (fun q => by have := hold pg (.inl q); omega), by omega, ⟨F1, _, L3, hg1, fun x hx => hx.elim .inl fun q => .inr (by omega)⟩, ?_, hk1.trans' (hk2.mono fun x _ h => .inr (.inl h))⟩, by show P.ousted.clock ≤ _; omega, by show P.ousted.all.length ≤ _; omega, hno2⟩
    show P.ousted.all.length < P.ousted.room
    rw [r2]; exact hl1
  · rintro e w' ⟨P2, S2, pg, w2, g, ⟨rfl, rfl, hpg1, hnK, hs2, ⟨F1, R1, L2, hgF, hgR⟩, hl2, hkk⟩, rfl, hp', hg, hg2, hk'⟩
    have hb2 := L2.pool.lt
    have hm2 := L2.pool.map.lt
    rw [r3] at hp'
    have L3 := L2.next (d' := P.oust con d) (F' := F1) hp' (L2.disk.kept hk' fun x hx e => by
      rcases e with e | e
      · exact L2.Fb (e ▸ hx)
      · exact L2.Fm (e ▸ hx)) hk' (Grows.refl _ _) (fun x h => h.elim .inl fun h => .inr (by omega)) (fun x hf hs => by
        rcases hs with hs | hs
        · exact L2.FS x hf hs
        · have := L2.disk.under x hf; omega) (fun x _ h => .inr (h.elim .inl fun h => .inr (.inl h))) rfl rfl rfl (fun p hp => by
          rcases insH_mem.1 hp with rfl | hp
          · show 0 ≤ (k : Int) ∧ (k : Int) < (P.ousted.pages : Int)
            rw [r1]; omega
          · exact L2.keyed p hp) (fun p hp => by
          rcases insH_mem.1 hp with rfl | hp
          · show P.clock + 1 ≤ P.ousted.clock + 1
            omega
          · exact Nat.le_succ_of_le (L2.used p hp)) (by
          show (insH _ _ _).length ≤ _
          rw [insH_length]; exact hl2) (fun p hp => by
          rcases insH_mem.1 hp with rfl | hp
          · exact ⟨.inr rfl, by show (if pg = pg then c else con pg).id = _; rw [if_pos rfl]; exact hid⟩
          · exact L2.held p hp)
    have hpl := (L2.far pg (.inl (.inr rfl))).2.2.2.2.2
    refine ⟨g, pg, rfl, hnK, hpg1, fun x => Z x ∨ w.heap.size ≤ x, ⟨F1, _, R1, L3, fun x hx => ?_⟩, fun x hx => hx, (hkk.trans' (hk'.mono fun x _ q => .inr q)).mono fun x _ q => hZ x (by rcases q with q | q | q; exact .inl q; exact .inr (.inl q); exact .inr (.inr (.inl q)))⟩
    rcases hx with hx | hx | hx | hx | hx | hx
    · rcases hgF x hx with e | e
      · exact .inl (hZ x (.inl e))
      · exact .inr e
    · exact .inl (hZ x (.inr (.inl hx)))
    · exact .inl (hZ x (.inr (.inr (.inl hx))))
    · rcases hx with hx | hx
      · exact .inl (hZ x (.inr (.inr (.inr (.inl hx)))))
      · exact .inr (by omega)
    · rcases hx with hx | hx
      · exact .inl (hZ x (.inr (.inr (.inr (.inr (.inl hx))))))
      · exact .inr (by omega)
    · rcases hgR x hx with e | e
      · exact .inl (hZ x (.inr (.inr (.inr (.inr (.inr e))))))
      · exact .inr e
theorem Live.full {w0 w : World} {bd b mb : Nat} {d : Dsk} {P : Pl} {K Z : Nat → Prop} {con : Nat → PgM} (h : Live w0 w bd b mb d P K con Z) (k : Nat) (hno : find P.map k = none) (hkp : k < P.pages)
    (hc : P.clock ≤ 1000000000000) (hl : P.room ≤ P.all.length) (hm : bestOf P P.all = none) :
    Calls Tryz.prog 12 #[.pointer (some ⟨b, 0, none⟩), .int .i64 k] w (RetNoPage w k 8 Nob) := by
  obtain ⟨F, S, R, L, hZ⟩ := h
  have hpg := L.pages
  refine pool_pin_full w b bd mb P S L.pool k hno hkp (by omega) Nob 8 (Lib.hid ?_)
  refine (pool_evict_full w b bd mb P S L.pool L.kd hl (by have := L.len; have := L.room; omega) (fun p hp => Nat.le_trans (L.used p hp) hc) (fun y hy => by rw [hm] at hy; cases hy)).mono ?_
  rintro e w' ⟨h, -⟩
  exact h hm
theorem LiveAt.away {w0 w w' : World} {bd b mb : Nat} {d : Dsk} {F S K R G : Nat → Prop} {P : Pl} {con : Nat → PgM} (L : LiveAt w0 w bd b mb d F P S K R con) (hk : Kept G w w')
    (hG : ∀ x, G x → (¬ F x ∧ x ≠ b ∧ x ≠ mb ∧ ¬ S x ∧ ¬ K x ∧ ¬ R x) ∧ w0.heap.size ≤ x) : LiveAt w0 w' bd b mb d F P S K R con := by
  have hs := hk.size
  refine ⟨L.pool.kept hk (fun e => (hG _ e).1.2.1 rfl) (fun e => (hG _ e).1.2.2.1 rfl) (fun x hx e => (hG x e).1.2.2.2.1 hx), L.disk.kept hk (fun x hx e => (hG x e).1.1 hx), L.fit, L.keyed, L.used, L.len, L.room,
    fun x hx => ⟨(L.page x hx).1.kept hk (fun e => (hG x e).1.2.2.2.2.1 hx) (fun y hy e => (hG y e).1.2.2.2.2.2 hy), (L.page x hx).2⟩, L.held, fun x hx => ?_, L.Fb, L.Fm, L.FS, L.new, L.kept.trans hk fun x hx e => by have := (hG x e).2; omega⟩
  obtain ⟨f1, f2, f3, f4, f5, f6⟩ := L.far x hx
  exact ⟨f1, f2, f3, f4, f5, by omega⟩
theorem Live.away {w0 w w' : World} {bd b mb : Nat} {d : Dsk} {P : Pl} {K Z G : Nat → Prop} {con : Nat → PgM} (h : Live w0 w bd b mb d P K con Z) (hk : Kept G w w') (hG : ∀ x, G x → ¬ Z x ∧ w0.heap.size ≤ x) : Live w0 w' bd b mb d P K con Z := by
  obtain ⟨F, S, R, L, hZ⟩ := h
  refine ⟨F, S, R, L.away hk fun x hx => ?_, hZ⟩
  obtain ⟨h1, h2⟩ := hG x hx
  exact ⟨⟨fun e => h1 (hZ x (.inl e)), fun e => h1 (hZ x (.inr (.inl e))), fun e => h1 (hZ x (.inr (.inr (.inl e)))), fun e => h1 (hZ x (.inr (.inr (.inr (.inl e))))), fun e => h1 (hZ x (.inr (.inr (.inr (.inr (.inl e)))))), fun e => h1 (hZ x (.inr (.inr (.inr (.inr (.inr e))))))⟩, h2⟩
end Go.Proofs.YthppgchmamonnaaGreatDoor
