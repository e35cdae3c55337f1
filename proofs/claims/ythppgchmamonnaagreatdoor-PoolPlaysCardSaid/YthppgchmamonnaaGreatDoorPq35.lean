/- The pool with its pages' contents: evict and Pin, whatever the disk answers. Every byte of a disk is a byte: kept by whatever is done to it. No program here. The document's pool with its pages' contents: what holds between calls; how the calls turn it. -/
import Derived.Test.YthppgchmamonnaaGreatDoorPq16
import Derived.Test.YthppgchmamonnaaGreatDoorPq26
import Derived.Test.YthppgchmamonnaaGreatDoorPq32
import Derived.Test.YthppgchmamonnaaGreatDoorPq33
import Derived.Test.YthppgchmamonnaaGreatDoorPq34
namespace Go.Proofs.YthppgchmamonnaaGreatDoor
open Go.RowKit
def Pl.evictA (P : Pl) (con : Nat → PgM) (d : Dsk) : Dsk × Pl × Nat :=
  if P.all.length < P.room then (d, P, 0) else
  match bestOf P P.all with
  | Option.none => (d, P, 8)
  | Option.some x => if x.2.dirty then (if (d.save (8 * x.1.toNat) (bytesOf (con x.2.pg))).2 = 0 then ((d.save (8 * x.1.toNat) (bytesOf (con x.2.pg))).1, { P with wrote := P.wrote + 1, all := P.all.filter fun p => !(p.1 == x.1) }, 0) else ((d.save (8 * x.1.toNat) (bytesOf (con x.2.pg))).1, P, 9)) else (d, { P with all := P.all.filter fun p => !(p.1 == x.1) }, 0)
theorem Pl.evictA_facts (P : Pl) (con : Nat → PgM) (d : Dsk) : (P.evictA con d).1.good.length = d.good.length ∧ (P.evictA con d).2.1.pages = P.pages ∧ (P.evictA con d).2.1.room = P.room ∧ (P.evictA con d).2.1.mark = P.mark ∧ (P.evictA con d).2.1.clock = P.clock ∧ (P.evictA con d).2.1.hits = P.hits ∧ (P.evictA con d).2.1.reads = P.reads ∧ (P.evictA con d).2.1.wrote ≤ P.wrote + 1 ∧
    (∀ x ∈ (P.evictA con d).2.1.all, x ∈ P.all) ∧ (P.evictA con d).2.1.all.length ≤ P.all.length ∧ (P.evictA con d).1.ops ≤ d.ops + 9 ∧ ((P.evictA con d).2.2 = 0 → (P.evictA con d).2.1.all.length < P.room ∨ P.room < P.all.length) := by
  unfold Pl.evictA
  split
  · rename_i hl
    exact ⟨rfl, rfl, rfl, rfl, rfl, rfl, rfl, by simp, fun _ h => h, Nat.le_refl _, by simp only; omega, fun _ => .inl hl⟩
  · rename_i hl
    split
    · exact ⟨rfl, rfl, rfl, rfl, rfl, rfl, rfl, by simp, fun _ h => h, Nat.le_refl _, by simp only; omega, fun h => by cases h⟩
    · rename_i x hx
      have hlt := filter_less (bestOf_mem P _ _ hx).1
      have hm : ∀ p ∈ (P.all.filter fun p => !(p.1 == x.1)), p ∈ P.all := fun p hp => (List.mem_filter.1 hp).1
      split
      · have h1 := Dsk.save_len d (8 * x.1.toNat) (bytesOf (con x.2.pg))
        have h2 := Dsk.save_ops d (8 * x.1.toNat) (bytesOf (con x.2.pg))
        generalize d.save (8 * x.1.toNat) (bytesOf (con x.2.pg)) = sv at *
        split
        · exact ⟨h1, rfl, rfl, rfl, rfl, rfl, rfl, Nat.le_refl _, hm, Nat.le_of_lt hlt, h2, fun _ => by show (P.all.filter _).length < _ ∨ _; omega⟩
        · exact ⟨h1, rfl, rfl, rfl, rfl, rfl, rfl, by simp, fun _ h => h, Nat.le_refl _, h2, fun h => by cases h⟩
      · exact ⟨rfl, rfl, rfl, rfl, rfl, rfl, rfl, by simp, hm, Nat.le_of_lt hlt, by simp only; omega, fun _ => by show (P.all.filter _).length < _ ∨ _; omega⟩
def RetEv (w0 w : World) (bd b mb : Nat) (F S K R : Nat → Prop) (con : Nat → PgM) (d : Dsk) (P : Pl) (c : Nat) (e : Ending) (w' : World) : Prop :=
  ∃ v, e = .returned v ∧ MaybeInner w' v c (From w.heap.size) ∧ (∃ F', LiveAt w0 w' bd b mb d F' P S K R con ∧ Grows F w.heap.size F') ∧ Kept (fun x => F x ∨ x = b ∨ x = mb) w w'
theorem LiveAt.evict_any {w0 w : World} {bd b mb : Nat} {d : Dsk} {F S K R : Nat → Prop} {P : Pl} {con : Nat → PgM} (L : LiveAt w0 w bd b mb d F P S K R con) (hc : P.clock ≤ 1000000000000) (hw : P.wrote ≤ 1000000000000) (ho : d.ops ≤ 1000000000) :
    Calls Tryz.prog 35 #[.pointer (some ⟨b, 0, none⟩)] w (RetEv w0 w bd b mb F S K R con (P.evictA con d).1 (P.evictA con d).2.1 (P.evictA con d).2.2) := by
  by_cases hl : P.all.length < P.room
  · have e : P.evictA con d = (d, P, 0) := by unfold Pl.evictA; rw [if_pos hl]
    rw [e]
    refine (pool_evict_room w b bd mb P S L.pool hl L.room).mono ?_
    rintro e w' ⟨rfl, n, rfl⟩
    exact ⟨_, rfl, .inl ⟨rfl, rfl⟩, ⟨F, L.nob (Kept.drewN _ _ _), Grows.refl _ _⟩, (Kept.drewN _ _ _)⟩
  · have hlen := L.len
    have hrm := L.room
    cases hx : bestOf P P.all with
    | none =>
      have e : P.evictA con d = (d, P, 8) := by unfold Pl.evictA; rw [if_neg hl, hx]
      rw [e]
      refine (pool_evict_full w b bd mb P S L.pool L.kd (by omega) (by omega) (fun p hp => Nat.le_trans (L.used p hp) hc) (fun y hy => by rw [hx] at hy; cases hy)).mono ?_
      rintro e' w' ⟨h, -⟩
      obtain ⟨rfl, hk⟩ := h hx
      exact ⟨_, rfl, .inr ⟨by show (1 : Int) ≤ ((8 : Nat) : Int); omega, by show ((8 : Nat) : Int) ≤ 15; omega, .inl rfl⟩, ⟨F, L.nob hk, Grows.refl _ _⟩, hk.nob⟩
    | some x =>
      have hxm := (bestOf_mem P _ _ hx).1
      have hlt := filter_less hxm
      obtain ⟨xk, xv⟩ := x
      have hxk := L.keyed _ hxm
      simp only at hxk
      cases hdy : xv.dirty with
      | false =>
        have e : P.evictA con d = (d, { P with all := P.all.filter fun p => !(p.1 == xk) }, 0) := by unfold Pl.evictA; rw [if_neg hl, hx]; simp only [hdy]; rfl
        rw [e]
        refine (pool_evict_full w b bd mb P S L.pool L.kd (by omega) (by omega) (fun p hp => Nat.le_trans (L.used p hp) hc) (fun y hy => by rw [hx] at hy; rw [← Option.some.inj hy]; exact hdy)).mono ?_
        rintro e' w' ⟨-, h⟩
        obtain ⟨rfl, hp, hk⟩ := h _ hx
        refine ⟨_, rfl, .inl ⟨rfl, rfl⟩, ⟨F, L.turn hp hk (fun y _ h => .inr (.inl h)) rfl rfl (fun p hp => L.keyed p (List.mem_filter.1 hp).1) (fun p hp => L.used p (List.mem_filter.1 hp).1) ?_ (fun p hp => L.held p (List.mem_filter.1 hp).1), Grows.refl _ _⟩, hk.mono fun y _ q => .inr (.inr q)⟩
        exact Nat.le_trans (List.length_filter_le _ _) L.len
      | true =>
        obtain ⟨hKp, hid⟩ := L.held _ hxm
        obtain ⟨hpa, hfi⟩ := L.page _ hKp
        have hpgs := L.pages
        have hfit := L.fit
        have hxe : ((xk.toNat : Nat) : Int) = xk := by omega
        have hWr : ∀ W, Kept Nob w W → Calls Tryz.prog 42 #[.pointer (some ⟨b, 0, none⟩), .int .i64 xk] W (RetDsk W bd (d.wr (8 * xk.toNat) (bytesOf (con xv.pg)) 8).1 F (d.wr (8 * xk.toNat) (bytesOf (con xv.pg)) 8).2) := fun W q => by
          have := pool_write_any W b bd mb P S (L.pool.nob q) L.kd xk.toNat xv (by rw [hxe]; exact hxm) (by omega) (con xv.pg) R (hpa.kept q (fun f => f) (fun _ _ f => f)) ⟨hfi.good.len, fun s hs => Nat.le_trans (hfi.good.size s hs) (by omega)⟩ hfi.good.used d F (L.disk.kept q (fun _ _ f => f)) L.Fb (by omega) (by omega)
          rw [hxe] at this
          exact this
        have hco := (Dsk.wr_code (d := d) (s := 8 * xk.toNat) (ys := bytesOf (con xv.pg)) L.disk.wf.len (by omega) (bytesOf_length _ hfi.good.used) 8 (by omega)).1
        have hop := Dsk.wr_ops d (8 * xk.toNat) (bytesOf (con xv.pg)) 8
        have hgd := Dsk.wr_good d (8 * xk.toNat) (bytesOf (con xv.pg)) 8
        have hsv : d.save (8 * xk.toNat) (bytesOf (con xv.pg)) = if (d.wr (8 * xk.toNat) (bytesOf (con xv.pg)) 8).2 = 0 then (d.wr (8 * xk.toNat) (bytesOf (con xv.pg)) 8).1.sync else d.wr (8 * xk.toNat) (bytesOf (con xv.pg)) 8 := rfl
        have e : P.evictA con d = (if (d.save (8 * xk.toNat) (bytesOf (con xv.pg))).2 = 0 then ((d.save (8 * xk.toNat) (bytesOf (con xv.pg))).1, { P with wrote := P.wrote + 1, all := P.all.filter fun p => !(p.1 == xk) }, 0) else ((d.save (8 * xk.toNat) (bytesOf (con xv.pg))).1, P, 9)) := by unfold Pl.evictA; rw [if_neg hl, hx]; simp only [hdy, if_true]
        generalize d.save (8 * xk.toNat) (bytesOf (con xv.pg)) = sv at *
        generalize d.wr (8 * xk.toNat) (bytesOf (con xv.pg)) 8 = D at *
        obtain ⟨D1, c1⟩ := D
        simp only at hWr hco hop hgd hsv
        have hFSy : ∀ F' : Nat → Prop, Grows F w.heap.size F' → ∀ y, F' y → S y → False := fun F' hg y hf hs => by
          rcases hg y hf with f | f
          · exact L.FS y f hs
          · have := L.pool.under y hs; omega
        by_cases hok : c1 = 0 ∧ D1.goes = true
        · obtain ⟨rfl, hgo⟩ := hok
          rw [if_pos rfl] at hsv
          have hs0 : D1.sync.2 = 0 := by simp [Dsk.sync, hgo]
          rw [hsv, if_pos hs0] at e
          rw [e]
          refine (pool_evict_dirty w b bd mb P S L.pool L.kd (by omega) (by omega) (fun p hp => Nat.le_trans (L.used p hp) hc) xk xv hx hdy D1 F L.disk.under L.Fb L.Fm L.FS (by omega) hgo hw (fun W q => (hWr W q).mono fun e w' h => h.zero rfl)).mono ?_
          rintro e' w' ⟨rfl, hp, ⟨F', hd, hg⟩, hk⟩
          refine ⟨_, rfl, .inl ⟨rfl, rfl⟩, ⟨F', L.next hp hd hk hg (Grows.refl _ _) (fun y hf hs => hFSy F' hg y hf hs) (fun y _ q => ?_) ?_ rfl rfl (fun p hp => L.keyed p (List.mem_filter.1 hp).1) (fun p hp => L.used p (List.mem_filter.1 hp).1) ?_ (fun p hp => L.held p (List.mem_filter.1 hp).1), hg⟩, hk⟩
          · rcases q with q | q | q
            · exact .inl q
            · exact .inr (.inl q)
            · exact .inr (.inr (.inl q))
          · rw [Dsk.sync_len, hgd]
          · exact Nat.le_trans (List.length_filter_le _ _) L.len
        · have hbad : c1 ≠ 0 ∨ D1.goes = false := by
            by_cases h0 : c1 = 0
            · exact .inr (by simpa [h0] using hok)
            · exact .inl h0
          have hs9 : c1 = 0 → D1.sync.2 = 9 := fun h0 => by
            have hg : D1.goes = false := hbad.resolve_left (fun h => h h0)
            simp [Dsk.sync, hg]
          have e2 : P.evictA con d = (if c1 = 0 then D1.sync.1 else D1, P, 9) := by
            rw [e, hsv]
            by_cases h0 : c1 = 0
            · rw [if_pos h0, if_pos h0, if_neg (by rw [hs9 h0]; decide)]
            · rw [if_neg h0, if_neg h0, if_neg h0]
          rw [e2]
          refine (pool_evict_bad w b bd mb P S L.pool L.kd (by omega) (by omega) (fun p hp => Nat.le_trans (L.used p hp) hc) xk xv hx hdy D1 F L.disk.under L.Fb L.Fm L.FS (by omega) c1 hbad (if c1 = 0 then D1.sync.1 else D1) 9 ⟨fun h => ⟨by rw [if_pos h], rfl⟩, fun h => ⟨by rw [if_neg h], by omega⟩⟩ hWr).mono ?_
          rintro e' w' ⟨v, rfl, hin, ⟨F', hd, hg⟩, hk⟩
          refine ⟨v, rfl, .inr ⟨by show (1 : Int) ≤ ((9 : Nat) : Int); omega, by show ((9 : Nat) : Int) ≤ 15; omega, hin⟩, ⟨F', L.next (L.pool.kept hk L.Fb L.Fm L.FS.symm) hd hk hg (Grows.refl _ _) (fun y hf hs => hFSy F' hg y hf hs) (fun y _ q => .inl q) ?_ rfl rfl L.keyed L.used L.len L.held, hg⟩, hk.mono fun y _ q => .inl q⟩
          split
          · rw [Dsk.sync_len, hgd]
          · rw [hgd]
theorem numsOf_len {l : List Value} {n : Nat} (h : ∀ u ∈ l, ∃ n : Int, u = .int .u8 n ∧ 0 ≤ n ∧ n < 256) (hl : l.length = n) : (numsOf l).length = n := by
  have := congrArg List.length (numsOf_map l h).1
  rw [List.length_map] at this
  omega
theorem parseOf_fine {ys : List Int} (hB : InB ys) {p : PgM} (h : parseOf ys = some p) : p.Fine ∧ bytesOf p = ys := by
  unfold parseOf at h
  split at h
  · cases h
  · rename_i h60
    cases hd : decSlots ys (ys.getD 1 0).toNat with
    | none => rw [hd] at h; cases h
    | some ss =>
      rw [hd] at h
      simp only [Option.bind_some] at h
      split at h
      · rename_i hm
        obtain rfl := Option.some.inj h
        unfold pageMay at hm
        simp only [Bool.and_eq_true, decide_eq_true_eq] at hm
        have hl := decSlots_len ys _ ss hd
        have h1 := hB.getD 1
        have h0 := hB.getD 0
        have h2 := hB.g16 2
        have h4 := hB.g16 4
        refine ⟨⟨⟨h0, ?_, ?_, decSlots_sized _ ss hd, hm.1.2, ?_⟩, fun b hb => ?_⟩, hm.2⟩
        · show 0 ≤ g16 ys 2 + 65536 * g16 ys 4 ∧ g16 ys 2 + 65536 * g16 ys 4 < 4294967296
          omega
        · show ss.length ≤ 60
          omega
        · show ss.getLast? ≠ some none
          have := hm.1.1
          intro e
          rw [e] at this
          simp at this
        · have : ∀ (j : Nat) (l : List (Option (List Int))), decSlots ys j = some l → ∀ b, some b ∈ l → InB b := decSlots_inB hB
          exact this _ ss hd b hb
      · cases h
def RetMissBad (w0 w : World) (bd b mb : Nat) (Z K : Nat → Prop) (con : Nat → PgM) (k c : Nat) (d : Dsk) (P : Pl) (e : Ending) (w' : World) : Prop :=
  ∃ v, e = .returned (.tuple #[.pointer none, v]) ∧ OuterAt w' v opPool k c (From w.heap.size) ∧ LiveTo w0 w bd b mb Z d P K con w'
def RetMissNew (w0 w : World) (bd b mb : Nat) (Z K : Nat → Prop) (con : Nat → PgM) (k clock : Nat) (d : Dsk) (P : Pl) (p : PgM) (e : Ending) (w' : World) : Prop :=
  ∃ g pg, e = .returned (.tuple #[.pointer (some ⟨pg, 0, none⟩), .nilIface]) ∧ ¬ K pg ∧ w.heap.size ≤ pg ∧ LiveTo w0 w bd b mb Z d (Pl.add { P with reads := P.reads + 1 } k ⟨g, pg, 1, false, 0, clock + 1⟩) (fun x => K x ∨ x = pg) (fun x => if x = pg then p else con x) w'
theorem Live.miss {w0 w : World} {bd b mb : Nat} {d : Dsk} {P : Pl} {K Z : Nat → Prop} {con : Nat → PgM} (h : Live w0 w bd b mb d P K con Z) (k : Nat) (hno : find P.map k = none) (hkp : k < P.pages)
    (hc : P.clock ≤ 1000000000) (hr : P.reads ≤ 1000000000) (hw : P.wrote ≤ 1000000000) (ho : d.ops ≤ 1000000000) (d1 : Dsk) (P1 : Pl) (c1 : Nat) (hE : P.evictA con d = (d1, P1, c1)) (hby : ∀ u ∈ Wal.flat d1.now (8 * k) 8, ∃ n : Int, u = .int .u8 n ∧ 0 ≤ n ∧ n < 256) (hlen : P.all.length ≤ P.room) :
    (c1 ≠ 0 → Calls Tryz.prog 12 #[.pointer (some ⟨b, 0, none⟩), .int .i64 k] w (RetMissBad w0 w bd b mb Z K con k c1 d1 P1)) ∧
    (c1 = 0 → pageIn d1 k = none → Calls Tryz.prog 12 #[.pointer (some ⟨b, 0, none⟩), .int .i64 k] w (RetMissBad w0 w bd b mb Z K con k 10 d1 { P1 with reads := P1.reads + 1 })) ∧
    (c1 = 0 → ∀ p, pageIn d1 k = some p → Calls Tryz.prog 12 #[.pointer (some ⟨b, 0, none⟩), .int .i64 k] w (RetMissNew w0 w bd b mb Z K con k P.clock d1 P1 p)) := by
  obtain ⟨F, S, R, L, hZ⟩ := h
  have hpg := L.pages
  have hrm := L.room
  obtain ⟨e1, e2, e3, e4, e5, e6, e7, e8, e9, e10, e11, e12⟩ := P.evictA_facts con d
  have hev := L.evict_any (by omega) (by omega) ho
  rw [hE] at hev e1 e2 e3 e4 e5 e6 e7 e8 e9 e10 e11 e12
  simp only at hev e1 e2 e3 e4 e5 e6 e7 e8 e9 e10 e11 e12
  have hZF : ∀ x, (F x ∨ x = b ∨ x = mb) → Z x := fun x q => hZ x (by rcases q with q | q | q; exact .inl q; exact .inr (.inl q); exact .inr (.inr (.inl q)))
  have hZo : ∀ (F' : Nat → Prop), Grows F w.heap.size F' → ∀ x, (F' x ∨ x = b ∨ x = mb ∨ S x ∨ K x ∨ R x) → Z x ∨ w.heap.size ≤ x := fun F' hg x q => by
    rcases q with q | q
    · exact (hg x q).imp (fun q => hZ x (.inl q)) (fun q => q)
    · exact .inl (hZ x (.inr q))
  refine ⟨fun hc1 => ?_, fun hc1 hpi => ?_, fun hc1 p hpi => ?_⟩
  · refine (pool_pin_evbad w b bd mb P S L.pool k hno hkp (by omega) c1 (fun w1 => (∃ F', LiveAt w0 w1 bd b mb d1 F' P1 S K R con ∧ Grows F w.heap.size F') ∧ Kept (fun x => F x ∨ x = b ∨ x = mb) w w1) (Lib.hid (hev.mono ?_))).mono ?_
    · rintro e w1 ⟨v, rfl, hmi, hl, hk⟩
      rcases hmi with ⟨h0, -⟩ | ⟨-, -, hin⟩
      · omega
      · exact ⟨v, rfl, hin, hk.size, hl, hk⟩
    · rintro e w' ⟨v, w1, rfl, hou, ⟨⟨F', hl, hg⟩, hk⟩, hk1⟩
      exact ⟨v, rfl, hou, fun x => Z x ∨ w.heap.size ≤ x, ⟨F', S, R, hl.nob hk1, hZo F' hg⟩, fun x hx => hx, (hk.then hk1).mono fun x _ q => hZF x q⟩
  · refine (pool_pin_rdbad w b bd mb P S L.pool k hno hkp (by omega) 10 (fun w1 => (∃ F', LiveAt w0 w1 bd b mb d1 F' { P1 with reads := P1.reads + 1 } S K R con ∧ Grows F w.heap.size F') ∧ Kept (fun x => F x ∨ x = b ∨ x = mb) w w1) (Lib.hid (hev.mono ?_))).mono ?_
    · rintro e w1 ⟨v, rfl, hmi, ⟨F1, L1, hg1⟩, hk1⟩
      rcases hmi with ⟨-, rfl⟩ | ⟨h0, -, -⟩
      · refine ⟨rfl, ?_⟩
        have hfit := L1.fit
        have hl512 : (Wal.flat d1.now (8 * k) 8).length = 512 := Wal.flat_length L1.disk.wf.now 8 (by rw [L1.disk.wf.len]; omega)
        obtain ⟨hfl, hin⟩ := numsOf_map _ hby
        have hln := numsOf_len hby hl512
        have hpi2 : readOf k (numsOf (Wal.flat d1.now (8 * k) 8)) = none := hpi
        generalize numsOf (Wal.flat d1.now (8 * k) 8) = ys at *
        unfold readOf at hpi2
        split at hpi2
        · cases hpi2
        · rename_i hnz
          have hex : ∃ r ∈ ys, r ≠ 0 := by
            refine Classical.byContradiction fun hn => hnz (List.eq_replicate_iff.2 ⟨hln, fun r hr => ?_⟩)
            exact Classical.byContradiction fun h0 => hn ⟨r, hr, h0⟩
          refine (pool_read_bad w1 b bd mb P1 S L1.pool d1 F1 L1.disk k (by omega) ys hfl hln hin hex (fun p hp hid => ?_) (by omega)).mono ?_
          · rw [hp] at hpi2
            simp [hid] at hpi2
          · rintro e w2 ⟨v, rfl, hin2, hp2, hk2⟩
            have hs1 := hk1.size
            exact ⟨v, rfl, hin2.mono fun x _ hx => Nat.le_trans hs1 hx, Nat.le_trans hs1 hk2.size, ⟨F1, L1.turn hp2 hk2 (fun x _ h => .inl h) rfl rfl L1.keyed L1.used L1.len L1.held, hg1⟩, hk1.trans' (hk2.mono fun x _ h => .inr (.inl h))⟩
      · omega
    · rintro e w' ⟨v, w1, rfl, hou, ⟨⟨F', hl, hg⟩, hk⟩, hk1⟩
      exact ⟨v, rfl, hou, fun x => Z x ∨ w.heap.size ≤ x, ⟨F', S, R, hl.nob hk1, hZo F' hg⟩, fun x hx => hx, (hk.then hk1).mono fun x _ q => hZF x q⟩
  · have hno2 : find P1.map k = none := by
      rw [find_none] at hno ⊢
      intro p hp
      obtain ⟨q, hq, rfl⟩ := List.mem_map.1 hp
      exact hno (q.1, q.2.g) (List.mem_map.2 ⟨q, e9 q hq, rfl⟩)
    have hl2 : P1.all.length < P1.room := by
      have := e12 hc1
      omega
    refine (pool_pin_new w b bd mb P S L.pool k hno hkp (by omega) (fun P2 S2 pg w2 => P2 = { P1 with reads := P1.reads + 1 } ∧ S2 = S ∧ w.heap.size ≤ pg ∧ ¬ K pg ∧ w.heap.size ≤ w2.heap.size ∧ p.id = (k : Int) ∧ (∃ F' R', LiveAt w0 w2 bd b mb d1 F' P2 S2 (fun x => K x ∨ x = pg) R' (fun x => if x = pg then p else con x) ∧ Grows F w.heap.size F' ∧ Grows R w.heap.size R') ∧ Kept (fun x => F x ∨ x = b ∨ x = mb) w w2) ?_).mono ?_
    · refine Lib.hid (hev.mono ?_)
      rintro e w1 ⟨v, rfl, hmi, ⟨F1, L1, hg1⟩, hk1⟩
      rcases hmi with ⟨-, rfl⟩ | ⟨h0, -, -⟩
      rotate_left
      · omega
      have hfit := L1.fit
      have hl512 : (Wal.flat d1.now (8 * k) 8).length = 512 := Wal.flat_length L1.disk.wf.now 8 (by rw [L1.disk.wf.len]; omega)
      obtain ⟨hfl, hin⟩ := numsOf_map _ hby
      have hln := numsOf_len hby hl512
      have hpi2 : readOf k (numsOf (Wal.flat d1.now (8 * k) 8)) = some p := hpi
      generalize hys : numsOf (Wal.flat d1.now (8 * k) 8) = ys at *
      have hs1 := hk1.size
      have hRP : (Calls Tryz.prog 36 #[.pointer (some ⟨b, 0, none⟩), .int .i64 k] w1 (RetPageOf w1 b bd mb P1 S p)) ∧ p.Fine ∧ p.id = (k : Int) := by
        unfold readOf at hpi2
        split at hpi2
        · rename_i hz
          obtain rfl := Option.some.inj hpi2
          refine ⟨(pool_read_zero w1 b bd mb P1 S L1.pool d1 F1 L1.disk k (by omega) (fun i hi => ?_) (by omega)).mono ?_, ⟨⟨⟨by show (0 : Int) ≤ 0; omega, by show (0 : Int) < 256; omega⟩, ⟨by show 0 ≤ (k : Int); omega, by show (k : Int) < 4294967296; omega⟩, by show ([] : List (Option (List Int))).length ≤ 60; simp, (fun s hs => by cases hs), by show usedOf [] ≤ 512; decide, by show ([] : List (Option (List Int))).getLast? ≠ some none; simp⟩, (fun b hb => by cases hb)⟩, rfl⟩
          · have hsl := Dsk.Sectors.getD L1.disk.wf.now (i := 8 * k + i) (by rw [L1.disk.wf.len]; omega)
            refine List.eq_replicate_iff.2 ⟨hsl.1, fun u hu => ?_⟩
            have hmem : ∀ n, i < n → n ≤ 8 → u ∈ Wal.flat d1.now (8 * k) n := by
              intro n
              induction n with
              | zero => intro h; omega
              | succ n ih =>
                intro h h8
                rw [Wal.flat]
                by_cases he : i = n
                · subst he; exact List.mem_append.2 (.inr hu)
                · exact List.mem_append.2 (.inl (ih (by omega) (by omega)))
            have := hmem 8 hi (Nat.le_refl _)
            rw [hfl, hz, List.map_replicate] at this
            exact (List.mem_replicate.1 this).2
          · rintro e w' ⟨pg, rfl, h1, h3, h4, h5⟩
            exact ⟨pg, rfl, h1, ⟨_, h3, SlotsAt.nil _ _, fun q => q.2 rfl⟩, h4, h5⟩
        · rename_i hnz
          cases hpo : parseOf ys with
          | none => rw [hpo] at hpi2; cases hpi2
          | some p' =>
            rw [hpo] at hpi2
            simp only [Option.bind_some] at hpi2
            split at hpi2
            · rename_i hid
              obtain rfl := Option.some.inj hpi2
              obtain ⟨hfi, hbe⟩ := parseOf_fine hin hpo
              have hex : ∃ r ∈ bytesOf p', r ≠ 0 := by
                rw [hbe]
                refine Classical.byContradiction fun hn => hnz (List.eq_replicate_iff.2 ⟨hln, fun r hr => ?_⟩)
                exact Classical.byContradiction fun h0 => hn ⟨r, hr, h0⟩
              exact ⟨pool_read_page w1 b bd mb P1 S L1.pool d1 F1 L1.disk k (by omega) p' (by rw [hbe]; exact hfl) (by rw [hbe]; exact hpo) (by rw [hbe]; exact hln) (by rw [hbe]; exact hin) hex hid (by omega), hfi, hid⟩
            · cases hpi2
      obtain ⟨hRd, hf, hid⟩ := hRP
      refine ⟨rfl, hRd.mono ?_⟩
      rintro e w2 ⟨pg, rfl, hpg2, hpa, hp2, hk2⟩
      have L2 := L1.turn hp2 hk2 (fun x _ h => .inl h) rfl rfl L1.keyed L1.used L1.len L1.held
      have hs2 := hk2.size
      have hold : ∀ x, (K x ∨ R x) → x < w1.heap.size := fun x hx => (L1.far x hx).2.2.2.2.2
      have hb1 := L1.pool.lt
      have hm1 := L1.pool.map.lt
      have hs0 := L1.kept.size
      have hfar : ∀ x, w1.heap.size ≤ x → x < w2.heap.size → ¬ F1 x ∧ x ≠ b ∧ x ≠ mb ∧ ¬ S x ∧ w0.heap.size ≤ x ∧ x < w2.heap.size := fun x h1 h2 =>
        ⟨fun f => by have := L1.disk.under x f; omega, by omega, by omega, fun f => by have := L1.pool.under x f; omega, by omega, h2⟩
      have L3 := L2.more (c := p) (R2 := fun x => (w1.heap.size ≤ x ∧ x ≠ pg) ∧ x < w2.heap.size) (hpa.mono (fun x hx q => ⟨q, hx⟩) (fun q => q.1.2 rfl)) hf (fun x hx => by
        rcases hx with rfl | hx
        · exact hfar x hpg2 hpa.lt
        · exact hfar x hx.1.1 hx.2) (fun q => by have := hold pg (.inl q); omega) (fun q => by have := hold pg (.inr q); omega) (fun x hx q => by have := hold x (.inl q); omega)
      exact ⟨_, S, pg, rfl, hp2, ⟨rfl, rfl, by omega, (fun q => by have := hold pg (.inl q); omega), by omega, hid, ⟨F1, _, L3, hg1, fun x hx => hx.elim .inl fun q => .inr (by omega)⟩, hk1.trans' (hk2.mono fun x _ h => .inr (.inl h))⟩, by show P1.clock ≤ _; omega, by show P1.all.length ≤ _; omega, hno2⟩
    · rintro e w' ⟨P2, S2, pg, w2, g, ⟨rfl, rfl, hpg1, hnK, hs2, hid, ⟨F1, R1, L2, hgF, hgR⟩, hkk⟩, rfl, hp', hg, hg2, hk'⟩
      have hb2 := L2.pool.lt
      have hm2 := L2.pool.map.lt
      have hp' : PoolAt w' b bd mb (Pl.add { P1 with reads := P1.reads + 1 } k ⟨g, pg, 1, false, 0, P.clock + 1⟩) (fun x => S2 x ∨ x = g) := by
        rw [← e5]; exact hp'
      have L3 := L2.next (d' := d1) (F' := F1) hp' (L2.disk.kept hk' fun x hx e => by
        rcases e with e | e
        · exact L2.Fb (e ▸ hx)
        · exact L2.Fm (e ▸ hx)) hk' (Grows.refl _ _) (fun x h => h.elim .inl fun h => .inr (by omega)) (fun x hf hs => by
          rcases hs with hs | hs
          · exact L2.FS x hf hs
          · have := L2.disk.under x hf; omega) (fun x _ h => .inr (h.elim .inl fun h => .inr (.inl h))) rfl rfl rfl (fun p hp => by
            rcases insH_mem.1 hp with rfl | hp
            · show 0 ≤ (k : Int) ∧ (k : Int) < (P1.pages : Int)
              omega
            · exact L2.keyed p hp) (fun p hp => by
            rcases insH_mem.1 hp with rfl | hp
            · show P.clock + 1 ≤ P1.clock + 1
              omega
            · exact Nat.le_succ_of_le (L2.used p hp)) (by
            show (insH _ _ _).length ≤ _
            rw [insH_length]; exact hl2) (fun q hp => by
            rcases insH_mem.1 hp with rfl | hp
            · exact ⟨.inr rfl, by show (if pg = pg then p else con pg).id = _; rw [if_pos rfl]; exact hid⟩
            · exact L2.held q hp)
      refine ⟨g, pg, rfl, hnK, hpg1, fun x => Z x ∨ w.heap.size ≤ x, ⟨F1, _, R1, L3, fun x hx => ?_⟩, fun x hx => hx, (hkk.trans' (hk'.mono fun x _ q => .inr q)).mono fun x _ q => hZF x q⟩
      rcases hx with hx | hx | hx | hx | hx | hx
      · exact hZo F1 hgF x (.inl hx)
      · exact .inl (hZ x (.inr (.inl hx)))
      · exact .inl (hZ x (.inr (.inr (.inl hx))))
      · rcases hx with hx | hx
        · exact .inl (hZ x (.inr (.inr (.inr (.inl hx)))))
        · exact .inr (by omega)
      · rcases hx with hx | hx
        · exact .inl (hZ x (.inr (.inr (.inr (.inr (.inl hx))))))
        · exact .inr (by omega)
      · exact (hgR x hx).imp (fun q => hZ x (.inr (.inr (.inr (.inr (.inr q)))))) (fun q => q)
def ByteV (u : Value) : Prop := ∃ n : Int, u = .int .u8 n ∧ 0 ≤ n ∧ n < 256
def SB (l : List (List Value)) : Prop := ∀ x ∈ l, ∀ u ∈ x, ByteV u
theorem SB.getD {l : List (List Value)} (h : SB l) (i : Nat) : ∀ u ∈ l.getD i [], ByteV u := fun u hu => by
  rw [List.getD_eq_getElem?_getD] at hu
  cases hx : l[i]? with
  | none => rw [hx] at hu; cases hu
  | some x => rw [hx] at hu; exact h x (List.mem_of_getElem? hx) u hu
theorem SB.set {l : List (List Value)} (h : SB l) (i : Nat) {x : List Value} (hx : ∀ u ∈ x, ByteV u) : SB (l.set i x) := fun y hy u hu => by
  rcases List.mem_or_eq_of_mem_set hy with e | e
  · exact h y e u hu
  · rw [e] at hu; exact hx u hu
theorem SB.settle {now : List (List Value)} (hn : SB now) : ∀ (l : List Int) (good : List (List Value)), SB good → SB (Dsk.settle now l good)
  | [], _, h => h
  | _ :: r, _, h => SB.settle hn r _ (h.set _ (hn.getD _))
theorem SB.bite {now good : List (List Value)} (hn : SB now) (hg : SB good) (keep : List Bool) (torn : Int) (k at_ : Nat) : SB (Dsk.bite now keep torn k at_ good) := by
  unfold Dsk.bite
  split
  · refine hg.set _ fun u hu => ?_
    rcases List.mem_append.1 hu with hu | hu
    · exact hn.getD _ u (List.mem_of_mem_take hu)
    · exact hg.getD _ u (List.mem_of_mem_drop hu)
  · split
    · exact hg.set _ (hn.getD _)
    · exact hg
theorem SB.bites {now : List (List Value)} (hn : SB now) (keep : List Bool) (torn : Int) : ∀ (l : List Int) (k : Nat) (good : List (List Value)), SB good → SB (Dsk.bites now keep torn l k good)
  | [], _, _, h => h
  | _ :: r, k, _, h => SB.bites hn keep torn r (k + 1) _ (hn.bite h keep torn k _)
structure Dsk.Byt (d : Dsk) : Prop where
  good : SB d.good
  now : SB d.now
theorem Dsk.Byt.fresh (n : Nat) : (Dsk.fresh n).Byt := by
  have h : SB (List.replicate n Dsk.zeroSector) := fun x hx u hu => by
    rw [(List.mem_replicate.1 hx).2] at hu
    rw [(List.mem_replicate.1 hu).2]
    exact ⟨0, rfl, by omega, by omega⟩
  exact ⟨h, h⟩
theorem Dsk.Byt.write {d : Dsk} (h : d.Byt) (k : Int) {x : List Value} (hx : ∀ u ∈ x, ByteV u) : (d.write k x).1.Byt := by
  unfold Dsk.write
  split
  · exact h
  · split
    · exact h
    · split
      · exact ⟨h.good, h.now.set _ hx⟩
      · exact ⟨h.good, h.now⟩
theorem sector_byteV {ys : List Int} (hB : InB ys) (j : Nat) : ∀ u ∈ sector ys j, ByteV u := fun u hu => by
  obtain ⟨y, hy, rfl⟩ := List.mem_map.1 hu
  exact ⟨y, rfl, hB y (List.mem_of_mem_drop (List.mem_of_mem_take hy))⟩
theorem Dsk.Byt.wr {d : Dsk} (h : d.Byt) (s : Nat) {ys : List Int} (hB : InB ys) (j : Nat) : (d.wr s ys j).1.Byt := by
  induction j with
  | zero => exact h
  | succ j ih =>
    rw [Dsk.wr]
    split
    · exact ih.write _ (sector_byteV hB j)
    · exact ih
theorem Dsk.Byt.sync {d : Dsk} (h : d.Byt) : d.sync.1.Byt := by
  unfold Dsk.sync
  split
  · exact ⟨h.now.settle _ _ h.good, h.now⟩
  · exact ⟨h.good, h.now⟩
theorem Dsk.Byt.save {d : Dsk} (h : d.Byt) (s : Nat) {ys : List Int} (hB : InB ys) : (d.save s ys).1.Byt := by
  unfold Dsk.save
  split
  · exact (h.wr s hB 8).sync
  · exact h.wr s hB 8
theorem Dsk.Byt.wrL {d : Dsk} (h : d.Byt) (l : List (Nat × PgM)) (hl : ∀ kp ∈ l, InB (bytesOf kp.2)) : (d.wrL l).1.Byt := by
  have : ∀ (l : List (Nat × PgM)) (r : Dsk × Nat), r.1.Byt → (∀ kp ∈ l, InB (bytesOf kp.2)) → (l.foldl Dsk.wrStep r).1.Byt := by
    intro l
    induction l with
    | nil => intro r h _; exact h
    | cons a l ih =>
      intro r h hl
      refine ih _ ?_ fun kp hk => hl kp (by simp [hk])
      unfold Dsk.wrStep
      split
      · exact h.wr _ (hl a (by simp)) 8
      · exact h
  exact this l (d, 0) h hl
theorem Dsk.Byt.crash {d : Dsk} (h : d.Byt) (keep : List Bool) (torn : Int) : (d.crash keep torn).Byt :=
  ⟨h.now.bites keep torn _ _ _ h.good, h.now.bites keep torn _ _ _ h.good⟩
theorem Dsk.Byt.slash {d : Dsk} (h : d.Byt) (n : Int) : (d.slash n).Byt := ⟨h.good, h.now⟩
theorem Dsk.Byt.flat {d : Dsk} (h : d.Byt) (s : Nat) : ∀ n, ∀ u ∈ Wal.flat d.now s n, ByteV u
  | 0, u, hu => by cases hu
  | n + 1, u, hu => by
    rw [Wal.flat] at hu
    rcases List.mem_append.1 hu with hu | hu
    · exact Dsk.Byt.flat h s n u hu
    · exact h.now.getD _ u hu
theorem rising_ext : ∀ (l l' : List Int), l.Pairwise (· < ·) → l'.Pairwise (· < ·) → (∀ x, x ∈ l ↔ x ∈ l') → l = l'
  | [], [], _, _, _ => rfl
  | [], b :: r', _, _, h => absurd ((h b).2 (by simp)) (by simp)
  | a :: r, [], _, _, h => absurd ((h a).1 (by simp)) (by simp)
  | a :: r, b :: r', h1, h2, h => by
    rw [List.pairwise_cons] at h1 h2
    have hab : a = b := by
      rcases List.mem_cons.1 ((h a).1 (by simp)) with e | e
      · exact e
      · rcases List.mem_cons.1 ((h b).2 (by simp)) with e' | e'
        · exact e'.symm
        · have := h2.1 a e; have := h1.1 b e'; omega
    subst hab
    rw [rising_ext r r' h1.2 h2.2 fun x => ⟨fun hx => ?_, fun hx => ?_⟩]
    · rcases List.mem_cons.1 ((h x).1 (by simp [hx])) with e | e
      · have := h1.1 x hx; omega
      · exact e
    · rcases List.mem_cons.1 ((h x).2 (by simp [hx])) with e | e
      · have := h2.1 x hx; omega
      · exact e
structure DLiveAt (w0 w : World) (md m : Nat) (d : Dsk) (DR : Nat → Prop) (Q : DPl) (S K : Nat → Prop) (R : Nat → Nat → Prop) (con : Nat → PgM) : Prop where
  pool : DPoolAt w m md Q S
  under : Under S w.heap.size
  disk : DocAt w md d DR
  fit : 8 * Q.pages ≤ d.good.length
  keyed : ∀ x ∈ Q.all, x.n < Q.pages
  last : ∀ x ∈ Q.all, x.last ≤ Q.clock
  len : Q.all.length ≤ Q.room
  room : Q.room ≤ 100
  page : ∀ x, K x → DPgAt w x (con x) (R x) ∧ (con x).Fine
  held : ∀ y ∈ Q.all, K y.pg ∧ (con y.pg).id = (y.n : Int)
  far : ∀ x, K x → ∀ y, (y = x ∨ R x y) → ¬ S y ∧ ¬ DR y ∧ y ≠ m ∧ y ≠ md ∧ w0.heap.size ≤ y ∧ y < w.heap.size
  apart : ∀ x y, K x → K y → x ≠ y → Disj (R x) (R y) ∧ ¬ R x y
  mmd : m ≠ md
  SD : Disj S DR
  Dm : ¬ DR m
  Sd : ¬ S md
  new : ∀ x, (S x ∨ DR x ∨ x = m ∨ x = md) → w0.heap.size ≤ x
  kept : Kept Nob w0 w
section
variable {w0 w w' : World} {md m : Nat} {d d' : Dsk} {DR DR' S S' K G : Nat → Prop} {Q Q' : DPl} {R : Nat → Nat → Prop} {con : Nat → PgM}
theorem DLiveAt.pages (L : DLiveAt w0 w md m d DR Q S K R con) : Q.pages ≤ 1024 := by
  have := L.disk.wf.most; have := L.fit; omega
theorem DLiveAt.next (L : DLiveAt w0 w md m d DR Q S K R con) (hp : DPoolAt w' m md Q' S') (hu : Under S' w'.heap.size) (hd : DocAt w' md d' DR') (hk : Kept G w w')
    (hS : Grows S w.heap.size S') (hR : Grows DR w.heap.size DR') (hSD : Disj S' DR') (h7 : ¬ DR' m) (h8 : ¬ S' md) (hG : ∀ x, x < w.heap.size → G x → x = m ∨ x = md ∨ S x)
    (hl : d'.good.length = d.good.length) (h1 : Q'.pages = Q.pages) (h2 : Q'.room = Q.room) (h3 : ∀ x ∈ Q'.all, x.n < Q.pages) (h4 : ∀ x ∈ Q'.all, x.last ≤ Q'.clock) (h5 : Q'.all.length ≤ Q.room) (h6 : ∀ y ∈ Q'.all, K y.pg ∧ (con y.pg).id = (y.n : Int)) :
    DLiveAt w0 w' md m d' DR' Q' S' K R con := by
  have hs := hk.size
  have h0 := L.kept.size
  have hx : ∀ x, K x → ∀ y, (y = x ∨ R x y) → ¬ G y := fun x hK y hy hg => by
    obtain ⟨f1, f2, f3, f4, -, f6⟩ := L.far x hK y hy
    rcases hG y f6 hg with e | e | e
    · exact f3 e
    · exact f4 e
    · exact f1 e
  refine ⟨hp, hu, hd, by rw [h1, hl]; exact L.fit, by rw [h1]; exact h3, h4, by rw [h2]; exact h5, by rw [h2]; exact L.room, fun x hK => ⟨(L.page x hK).1.kept hk (hx x hK x (.inl rfl)) (fun y hy => hx x hK y (.inr hy)), (L.page x hK).2⟩, h6, fun x hK y hy => ?_, L.apart, L.mmd, hSD, h7, h8, fun x hx => ?_, L.kept.trans hk fun x hx hg => ?_⟩
  · obtain ⟨f1, f2, f3, f4, f5, f6⟩ := L.far x hK y hy
    exact ⟨fun e => (hS y e).elim f1 (fun e => by omega), fun e => (hR y e).elim f2 (fun e => by omega), f3, f4, f5, by omega⟩
  · rcases hx with e | e | e
    · exact (hS x e).elim (fun e => L.new x (.inl e)) (fun e => by omega)
    · exact (hR x e).elim (fun e => L.new x (.inr (.inl e))) (fun e => by omega)
    · exact L.new x (.inr (.inr e))
  · have h := hG x (Nat.lt_of_lt_of_le hx h0) hg
    have := L.new x (by rcases h with e | e | e; exact .inr (.inr (.inl e)); exact .inr (.inr (.inr e)); exact .inl e)
    omega
theorem DLiveAt.nob (L : DLiveAt w0 w md m d DR Q S K R con) (hk : Kept Nob w w') : DLiveAt w0 w' md m d DR Q S K R con :=
  L.next (L.pool.nob hk) (L.under.mono hk.size) (L.disk.kept hk (fun f => f) (fun _ _ f => f)) hk (Grows.refl _ _) (Grows.refl _ _) L.SD L.Dm L.Sd (fun _ _ f => f.elim) rfl rfl rfl L.keyed L.last L.len L.held
theorem DLiveAt.turn (L : DLiveAt w0 w md m d DR Q S K R con) (hp : DPoolAt w' m md Q' S) (hk : Kept (fun y => y = m ∨ S y) w w')
    (h1 : Q'.pages = Q.pages) (h2 : Q'.room = Q.room) (h3 : ∀ x ∈ Q'.all, x.n < Q.pages) (h4 : ∀ x ∈ Q'.all, x.last ≤ Q'.clock) (h5 : Q'.all.length ≤ Q.room) (h6 : ∀ y ∈ Q'.all, K y.pg ∧ (con y.pg).id = (y.n : Int)) :
    DLiveAt w0 w' md m d DR Q' S K R con :=
  L.next hp (L.under.mono hk.size) (L.disk.kept hk (fun e => e.elim (fun e => L.mmd e.symm) L.Sd) (fun x hx e => e.elim (fun e => L.Dm (e ▸ hx)) (fun e => L.SD x e hx))) hk (Grows.refl _ _) (Grows.refl _ _) L.SD L.Dm L.Sd (fun _ _ f => f.elim .inl (fun f => .inr (.inr f))) rfl h1 h2 h3 h4 h5 h6
end
def DLive (w0 w : World) (md m : Nat) (d : Dsk) (Q : DPl) (K : Nat → Prop) (con : Nat → PgM) (Z : Nat → Prop) : Prop :=
  ∃ DR S R, DLiveAt w0 w md m d DR Q S K R con ∧ ∀ x, (S x ∨ DR x ∨ x = m ∨ x = md ∨ ∃ y, K y ∧ (x = y ∨ R y x)) → Z x
theorem DLive.nob {w0 w w' : World} {md m : Nat} {d : Dsk} {Q : DPl} {K Z : Nat → Prop} {con : Nat → PgM} (h : DLive w0 w md m d Q K con Z) (hk : Kept Nob w w') : DLive w0 w' md m d Q K con Z := by
  obtain ⟨DR, S, R, L, hZ⟩ := h
  exact ⟨DR, S, R, L.nob hk, hZ⟩
def DLiveTo (w0 w : World) (md m : Nat) (Z : Nat → Prop) (d : Dsk) (Q : DPl) (K : Nat → Prop) (con : Nat → PgM) (w' : World) : Prop :=
  ∃ Z', DLive w0 w' md m d Q K con Z' ∧ Grows Z w.heap.size Z' ∧ Kept Z w w'
theorem DPl.mem_set {Q : DPl} {x' p : DHd} (h : p ∈ (Q.set x').all) : p = x' ∨ p ∈ Q.all := by
  simp only [DPl.set, List.mem_map] at h
  obtain ⟨z, hz, rfl⟩ := h
  split
  · exact .inl rfl
  · exact .inr hz
theorem DPl.set_len (Q : DPl) (x' : DHd) : (Q.set x').all.length = Q.all.length := by simp [DPl.set]
section
variable {w0 w : World} {md m : Nat} {d : Dsk} {Q : DPl} {K Z : Nat → Prop} {con : Nat → PgM}
theorem DLive.hit (h : DLive w0 w md m d Q K con Z) (k : Nat) (x : DHd) (hx : Q.find k = some x) (hc : Q.clock ≤ 1000000000000) (hh : Q.hits ≤ 1000000000000) (hp : x.pins ≤ 1000000000000) :
    Calls Tryz.prog 49 #[.pointer (some ⟨m, 0, none⟩), .int .i64 k] w fun e w' => e = .returned (.tuple #[.pointer (some ⟨x.pg, 0, none⟩), .int .i64 0]) ∧ DLiveTo w0 w md m Z d (Q.hit x) K con w' := by
  obtain ⟨DR, S, R, L, hZ⟩ := h
  have hfm := DPl.find_mem hx
  have hkd := L.keyed x hfm.1
  have hlen := L.len
  have hrm := L.room
  refine (doc_pin_hit w m md Q S L.pool (by omega) k x hx (by omega) hc hh hp).mono ?_
  rintro e w' ⟨rfl, hp', hk⟩
  refine ⟨rfl, Z, ⟨DR, S, R, L.turn hp' hk rfl rfl (fun y hy => ?_) (fun y hy => ?_) ?_ (fun y hy => ?_), hZ⟩, Grows.refl _ _, hk.mono fun y _ q => hZ y (q.elim (fun q => .inr (.inr (.inl q))) .inl)⟩
  · rcases DPl.mem_set hy with rfl | hy
    · exact hkd
    · exact L.keyed y hy
  · rcases DPl.mem_set hy with rfl | hy
    · exact Nat.le_refl _
    · exact Nat.le_succ_of_le (L.last y hy)
  · rw [DPl.hit, DPl.set_len]; exact L.len
  · rcases DPl.mem_set hy with rfl | hy
    · exact (L.held x hfm.1 :)
    · exact L.held y hy
theorem DLive.unpin (h : DLive w0 w md m d Q K con Z) (k n : Int) (y : Bool) (x : DHd) (hx : Q.find k = some x) (h1 : 1 ≤ x.pins) (h2 : x.pins ≤ 1000000000000) :
    Calls Tryz.prog 53 #[.pointer (some ⟨m, 0, none⟩), .int .i64 k, .bool y, .int .i64 n] w fun e w' => e = .returned (.int .i64 0) ∧ DLiveTo w0 w md m Z d (Q.set (x.less y n)) K con w' := by
  obtain ⟨DR, S, R, L, hZ⟩ := h
  have hfm := DPl.find_mem hx
  have hlen := L.len
  have hrm := L.room
  refine (doc_unpin w m md Q S L.pool (by omega) k n y x hx h1 h2).mono ?_
  rintro e w' ⟨rfl, hp', hk⟩
  refine ⟨rfl, Z, ⟨DR, S, R, L.turn hp' (hk.mono fun _ _ q => .inr q) rfl rfl (fun y hy => ?_) (fun y hy => ?_) ?_ (fun y hy => ?_), hZ⟩, Grows.refl _ _, hk.mono fun y _ q => hZ y (.inl q)⟩
  · rcases DPl.mem_set hy with rfl | hy
    · exact (L.keyed x hfm.1 :)
    · exact L.keyed y hy
  · rcases DPl.mem_set hy with rfl | hy
    · exact (L.last x hfm.1 :)
    · exact L.last y hy
  · rw [DPl.set_len]; exact L.len
  · rcases DPl.mem_set hy with rfl | hy
    · exact (L.held x hfm.1 :)
    · exact L.held y hy
theorem DLive.log (h : DLive w0 w md m d Q K con Z) (n : Int) :
    Calls Tryz.prog 54 #[.pointer (some ⟨m, 0, none⟩), .int .i64 n] w fun e w' => e = .returned (.tuple #[]) ∧ DLiveTo w0 w md m Z d { Q with mark := max Q.mark n } K con w' := by
  obtain ⟨DR, S, R, L, hZ⟩ := h
  refine (doc_log w m md Q S L.pool n).mono ?_
  rintro e w' ⟨rfl, hp', hk⟩
  exact ⟨rfl, Z, ⟨DR, S, R, L.turn hp' (hk.mono fun _ _ q => .inl q) rfl rfl L.keyed L.last L.len L.held, hZ⟩, Grows.refl _ _, hk.mono fun y _ q => hZ y (.inr (.inr (.inl q)))⟩
end
end Go.Proofs.YthppgchmamonnaaGreatDoor
