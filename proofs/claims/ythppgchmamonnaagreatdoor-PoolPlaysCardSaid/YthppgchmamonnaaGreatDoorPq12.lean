/- The pool on a disk of noughts: what holds between calls; Pin, Unpin, as they turn it. The pool: Dirty. pool.New that is refused. -/
import Derived.Test.YthppgchmamonnaaGreatDoorPq11
namespace Go.Proofs.YthppgchmamonnaaGreatDoor
open Go.RowKit
structure CleanAt (w0 w : World) (bd b mb : Nat) (d : Dsk) (F : Nat → Prop) (P : Pl) (S : Nat → Prop) : Prop where
  pool : PoolAt w b bd mb P S
  disk : DiskAt w bd d F
  zero : ∀ i, i < d.good.length → d.now.getD i [] = Dsk.zeroSector
  fit : 8 * P.pages ≤ d.good.length
  keyed : ∀ p ∈ P.all, 0 ≤ p.1 ∧ p.1 < (P.pages : Int)
  clean : ∀ p ∈ P.all, p.2.dirty = false
  used : ∀ p ∈ P.all, p.2.used ≤ P.clock
  len : P.all.length ≤ P.room
  room : P.room ≤ 100
  Fb : ¬ F b
  Fm : ¬ F mb
  FS : Disj F S
  new : ∀ x, (F x ∨ x = b ∨ x = mb ∨ S x) → w0.heap.size ≤ x
  kept : Kept Nob w0 w
theorem CleanAt.pages {w0 w : World} {bd b mb : Nat} {d : Dsk} {F : Nat → Prop} {P : Pl} {S : Nat → Prop} (C : CleanAt w0 w bd b mb d F P S) : P.pages ≤ 1024 := by
  have := C.disk.wf.most; have := C.fit; omega
theorem CleanAt.kd {w0 w : World} {bd b mb : Nat} {d : Dsk} {F : Nat → Prop} {P : Pl} {S : Nat → Prop} (C : CleanAt w0 w bd b mb d F P S) : P.Keyed := fun p hp => by
  have h := C.keyed p hp
  have := C.pages
  exact ⟨h.1, by omega⟩
theorem CleanAt.next {w0 w w' : World} {bd b mb : Nat} {d : Dsk} {F G : Nat → Prop} {P P' : Pl} {S S' : Nat → Prop} (C : CleanAt w0 w bd b mb d F P S) (hp : PoolAt w' b bd mb P' S') (hk : Kept G w w')
    (hG : ∀ x, x < w.heap.size → G x → x = b ∨ x = mb ∨ S x) (hS : ∀ x, S' x → S x ∨ w.heap.size ≤ x) (h1 : P'.pages = P.pages) (h2 : P'.room = P.room)
    (h3 : ∀ p ∈ P'.all, 0 ≤ p.1 ∧ p.1 < (P.pages : Int)) (h4 : ∀ p ∈ P'.all, p.2.dirty = false) (h5 : ∀ p ∈ P'.all, p.2.used ≤ P'.clock) (h6 : P'.all.length ≤ P.room) : CleanAt w0 w' bd b mb d F P' S' := by
  have hd : Disj F G := fun k hk hg => by
    rcases hG k (C.disk.under k hk) hg with e | e | e
    · exact C.Fb (e ▸ hk)
    · exact C.Fm (e ▸ hk)
    · exact C.FS k hk e
  refine ⟨hp, C.disk.kept hk hd, C.zero, by rw [h1]; exact C.fit, by rw [h1]; exact h3, h4, h5, by rw [h2]; exact h6, by rw [h2]; exact C.room, C.Fb, C.Fm, fun k hf hs => ?_, fun x hx => ?_, C.kept.trans hk fun x hx hg => ?_⟩
  · rcases hS k hs with e | e
    · exact C.FS k hf e
    · have := C.disk.under k hf; omega
  · rcases hx with e | e | e | e
    · exact C.new x (.inl e)
    · exact C.new x (.inr (.inl e))
    · exact C.new x (.inr (.inr (.inl e)))
    · rcases hS x e with e | e
      · exact C.new x (.inr (.inr (.inr e)))
      · exact Nat.le_trans C.kept.size e
  · have := hG x (Nat.lt_of_lt_of_le hx C.kept.size) hg
    have := C.new x (.inr this)
    omega
theorem CleanAt.nob {w0 w w' : World} {bd b mb : Nat} {d : Dsk} {F : Nat → Prop} {P : Pl} {S : Nat → Prop} (C : CleanAt w0 w bd b mb d F P S) (hk : Kept Nob w w') : CleanAt w0 w' bd b mb d F P S :=
  C.next (C.pool.nob hk) hk (fun _ _ f => f.elim) (fun _ h => .inl h) rfl rfl C.keyed C.clean C.used C.len
theorem Pl.mem_set {P : Pl} {k : Int} {x : Hd} {p : Int × Hd} (h : p ∈ (P.set k x).all) : p = (k, x) ∨ p ∈ P.all := by
  simp only [Pl.set, List.mem_map] at h
  obtain ⟨q, hq, rfl⟩ := h
  by_cases hk : q.1 = k
  · rw [if_pos hk]; exact .inl rfl
  · rw [if_neg hk]; exact .inr hq
theorem Pl.set_length (P : Pl) (k : Int) (x : Hd) : (P.set k x).all.length = P.all.length := by simp [Pl.set]
def Pl.roomy (P : Pl) : Pl := if P.all.length < P.room then P else match bestOf P P.all with | Option.none => P | Option.some x => { P with all := P.all.filter fun p => !(p.1 == x.1) }
theorem find_filter {l : List (Int × Hd)} {k : Int} (f : Int × Hd → Bool) (h : Proofs.YthppgchmamonnaaGreatDoor.find (l.map fun p => (p.1, p.2.g)) k = none) : Proofs.YthppgchmamonnaaGreatDoor.find ((l.filter f).map fun p => (p.1, p.2.g)) k = none := by
  rw [find_none] at *
  intro p hp
  obtain ⟨q, hq, rfl⟩ := List.mem_map.1 hp
  exact h _ (List.mem_map.2 ⟨q, (List.mem_filter.1 hq).1, rfl⟩)
theorem CleanAt.evict {w0 w : World} {bd b mb : Nat} {d : Dsk} {F : Nat → Prop} {P : Pl} {S : Nat → Prop} (C : CleanAt w0 w bd b mb d F P S) (hc : P.clock ≤ 1000000000000) (hm : P.all.length < P.room ∨ ∃ x, bestOf P P.all = some x) :
    Calls Tryz.prog 35 #[.pointer (some ⟨b, 0, none⟩)] w fun e w' => e = .returned .nilIface ∧ CleanAt w0 w' bd b mb d F P.roomy S ∧ Kept (Just mb) w w' ∧ P.roomy.all.length < P.room := by
  by_cases hl : P.all.length < P.room
  · refine (pool_evict_room w b bd mb P S C.pool hl C.room).mono ?_
    rintro e w' ⟨rfl, n, rfl⟩
    have e : P.roomy = P := by unfold Pl.roomy; rw [if_pos hl]
    rw [e]
    exact ⟨rfl, C.nob (Kept.drewN _ _ _), (Kept.drewN _ _ _), hl⟩
  · obtain ⟨x, hx⟩ : ∃ x, bestOf P P.all = some x := by
      rcases hm with h | h
      · exact absurd h hl
      · exact h
    have hxm := (bestOf_mem P _ _ hx).1
    refine (pool_evict_full w b bd mb P S C.pool C.kd (by omega) (by have := C.len; have := C.room; omega) (fun p hp => Nat.le_trans (C.used p hp) hc) (fun y hy => C.clean _ (bestOf_mem P _ _ hy).1)).mono ?_
    rintro e w' ⟨-, h⟩
    obtain ⟨rfl, hp, hk⟩ := h x hx
    have e : P.roomy = { P with all := P.all.filter fun p => !(p.1 == x.1) } := by unfold Pl.roomy; rw [if_neg hl, hx]
    rw [e]
    have hlt : (P.all.filter fun p => !(p.1 == x.1)).length < P.all.length := by
      rcases Nat.lt_or_ge (P.all.filter fun p => !(p.1 == x.1)).length P.all.length with h | h
      · exact h
      · have h2 := List.length_filter_eq_length_iff.1 (Nat.le_antisymm (List.length_filter_le _ _) h) x hxm
        simp at h2
    refine ⟨rfl, C.next hp hk (fun y _ h => .inr (.inl h)) (fun _ h => .inl h) rfl rfl (fun p hp => C.keyed p (List.mem_filter.1 hp).1) (fun p hp => C.clean p (List.mem_filter.1 hp).1) (fun p hp => C.used p (List.mem_filter.1 hp).1) ?_, hk, ?_⟩
    · exact Nat.le_trans (List.length_filter_le _ _) C.len
    · exact Nat.lt_of_lt_of_le hlt C.len
theorem Pl.roomy_pages (P : Pl) : P.roomy.pages = P.pages ∧ P.roomy.room = P.room ∧ P.roomy.clock = P.clock ∧ P.roomy.hits = P.hits ∧ P.roomy.reads = P.reads ∧ P.roomy.wrote = P.wrote ∧ P.roomy.mark = P.mark := by
  unfold Pl.roomy
  split
  · exact ⟨rfl, rfl, rfl, rfl, rfl, rfl, rfl⟩
  · split <;> exact ⟨rfl, rfl, rfl, rfl, rfl, rfl, rfl⟩
theorem Pl.roomy_none {P : Pl} {k : Int} (h : find P.map k = Option.none) : find P.roomy.map k = Option.none := by
  unfold Pl.roomy
  split
  · exact h
  · split
    · exact h
    · exact find_filter _ h
theorem CleanAt.fresh_pin {w0 w : World} {bd b mb : Nat} {d : Dsk} {F : Nat → Prop} {P : Pl} {S : Nat → Prop} (C : CleanAt w0 w bd b mb d F P S) (k : Nat) (hno : find P.map k = none) (hkp : k < P.pages)
    (hc : P.clock ≤ 1000000000) (hr : P.reads ≤ 1000000000) (hm : P.all.length < P.room ∨ ∃ x, bestOf P P.all = some x) :
    Calls Tryz.prog 12 #[.pointer (some ⟨b, 0, none⟩), .int .i64 k] w fun e w' => ∃ g pg S',
      e = .returned (.tuple #[.pointer (some ⟨pg, 0, none⟩), .nilIface]) ∧ w.heap.size ≤ pg ∧ PageHead w' pg 0 k (.slice none 0 0) ∧ CleanAt w0 w' bd b mb d F (Pl.add { P.roomy with reads := P.reads + 1 } k ⟨g, pg, 1, false, 0, P.clock + 1⟩) S' ∧ Kept (fun x => x = b ∨ x = mb) w w' ∧ Grows S w.heap.size S' := by
  obtain ⟨r1, r2, r3, r4, r5, r6, r7⟩ := P.roomy_pages
  have hno2 := Pl.roomy_none hno
  have hpg := C.pages
  have hlen := C.len
  have hrm := C.room
  refine (pool_pin_new w b bd mb P S C.pool k hno hkp (by omega) (fun P2 S2 pg w2 => P2 = { P.roomy with reads := P.reads + 1 } ∧ S2 = S ∧ w.heap.size ≤ pg ∧ pg < w2.heap.size ∧ PageHead w2 pg 0 k (.slice none 0 0) ∧ CleanAt w0 w2 bd b mb d F P2 S2 ∧ w.heap.size ≤ w2.heap.size ∧ P2.all.length < P2.room ∧ Kept (fun x => x = b ∨ x = mb) w w2) ?_).mono ?_
  · refine Lib.hid ((C.evict (by omega) hm).mono ?_)
    rintro e w1 ⟨rfl, C1, hk1, hl1⟩
    refine ⟨rfl, (pool_read_zero w1 b bd mb P.roomy S C1.pool d F C1.disk k (by have := C.fit; omega) (fun i hi => C.zero _ (by have := C.fit; omega)) (by rw [r5]; omega)).mono ?_⟩
    rintro e w2 ⟨pg, rfl, hpg2, hph, hp2, hk2⟩
    rw [r5] at hp2
    refine ⟨_, S, pg, rfl, hp2, ⟨rfl, rfl, Nat.le_trans hk1.size hpg2, (Array.getElem?_eq_some_iff.1 hph).1, hph, ?_, Nat.le_trans hk1.size hk2.size, ?_, (hk1.mono fun x _ h => .inr h).trans' (hk2.mono fun x _ h => .inl h)⟩, by show P.roomy.clock ≤ _; omega, by show P.roomy.all.length ≤ _; omega, hno2⟩
    · exact C1.next hp2 hk2 (fun x _ h => .inl h) (fun _ h => .inl h) rfl rfl C1.keyed C1.clean C1.used C1.len
    · show P.roomy.all.length < P.roomy.room
      rw [r2]; exact hl1
  · rintro e w' ⟨P2, S2, pg, w2, g, ⟨rfl, rfl, hpg1, hpg2, hph, C2, hs2, hl2, hkk⟩, rfl, hp', hg, hg2, hk'⟩
    refine ⟨g, pg, (fun x => S2 x ∨ x = g), rfl, hpg1, ?_, ?_, hkk.trans' hk', fun x h => h.elim .inl fun h => .inr (by omega)⟩
    · refine (hk'.block pg hpg2 ?_).trans hph
      have h1 := C.pool.lt
      have h2 := C.pool.map.lt
      rintro (e | e) <;> omega
    · rw [r3] at hp'
      refine C2.next hp' hk' (fun x _ h => h.elim .inl fun h => .inr (.inl h)) (fun x h => h.elim .inl fun h => .inr (by omega)) rfl rfl (fun p hp => ?_) (fun p hp => ?_) (fun p hp => ?_) ?_
      · rcases insH_mem.1 hp with rfl | hp
        · show 0 ≤ (k : Int) ∧ (k : Int) < (P.roomy.pages : Int)
          rw [r1]; omega
        · exact C2.keyed p hp
      · rcases insH_mem.1 hp with rfl | hp
        · rfl
        · exact C2.clean p hp
      · rcases insH_mem.1 hp with rfl | hp
        · show P.clock + 1 ≤ P.roomy.clock + 1
          omega
        · exact Nat.le_succ_of_le (C2.used p hp)
      · show (insH _ _ _).length ≤ _
        rw [insH_length]; exact hl2
theorem CleanAt.full {w0 w : World} {bd b mb : Nat} {d : Dsk} {F : Nat → Prop} {P : Pl} {S : Nat → Prop} (C : CleanAt w0 w bd b mb d F P S) (k : Nat) (hno : find P.map k = none) (hkp : k < P.pages)
    (hc : P.clock ≤ 1000000000000) (hl : P.room ≤ P.all.length) (hm : bestOf P P.all = none) :
    Calls Tryz.prog 12 #[.pointer (some ⟨b, 0, none⟩), .int .i64 k] w (RetNoPage w k 8 Nob) := by
  have hpg := C.pages
  refine pool_pin_full w b bd mb P S C.pool k hno hkp (by omega) Nob 8 (Lib.hid ?_)
  refine (pool_evict_full w b bd mb P S C.pool C.kd hl (by have := C.len; have := C.room; omega) (fun p hp => Nat.le_trans (C.used p hp) hc) (fun y hy => C.clean _ (bestOf_mem P _ _ hy).1)).mono ?_
  rintro e w' ⟨h, -⟩
  exact h hm
def dirtyOf (l : List (Int × Hd)) : List Value := (l.filter fun p => p.2.dirty).map fun p => .int .i64 p.1
theorem dirtyOf_take (l : List (Int × Hd)) (j : Nat) (h : j < l.length) : dirtyOf (l.take (j + 1)) = dirtyOf (l.take j) ++ if l[j].2.dirty then [.int .i64 l[j].1] else [] := by
  rw [List.take_succ_eq_append_getElem h, dirtyOf, List.filter_append, List.map_append]
  unfold dirtyOf
  congr 1
  by_cases hd : l[j].2.dirty = true
  · simp [hd]
  · simp [hd]
theorem dirtyOf_len (l : List (Int × Hd)) (j : Nat) : (dirtyOf (l.take j)).length ≤ l.length := by
  rw [dirtyOf, List.length_map]
  exact Nat.le_trans (List.length_filter_le _ _) (by rw [List.length_take]; omega)
def DirtyRel (w : World) (l : List (Int × Hd)) (j : Nat) (v : Value) (wr : World) : Prop :=
  ∃ b c, v = .slice b (dirtyOf (l.take j)).length c ∧ Own wr 3 v (dirtyOf (l.take j)) (From w.heap.size) ∧ Kept Nob w wr
set_option maxRecDepth 100000 in
set_option maxHeartbeats 1000000 in
theorem pool_dirty (w : World) (b bd mb : Nat) (P : Pl) (S : Nat → Prop) (h : PoolAt w b bd mb P S) (hk : P.Keyed) (hl : P.all.length ≤ 100000) :
    Calls Tryz.prog 16 #[.pointer (some ⟨b, 0, none⟩)] w fun e w' => ∃ a c, e = .returned (.slice a (dirtyOf P.all).length c) ∧ Own w' 3 (.slice a (dirtyOf P.all).length c) (dirtyOf P.all) (From w.heap.size) ∧ Kept Nob w w' := by
  have HP := Lib.hid h
  have HKy := Lib.hid hk
  have HH := Lib.hid (pool_held w b bd mb P S h hl)
  have HR0 : Hid (∀ w1, DirtyRel w1 P.all 0 (.slice none 0 0) w1) := Lib.hid fun w1 => ⟨none, 0, rfl, Own.nil _ _ _, Kept.refl _ _⟩
  clear h hk
  go_enter Tryz.func16, Tryz.ntmps16
  go_wp2_with fail
  refine HH.out.mono ?_
  rintro e w2 ⟨a2, k2, rfl, ho2, hk2⟩
  have HO2 := Lib.hid ho2.reads
  have HK2 := Lib.hid hk2
  have HL : Hid (P.keys.length = P.all.length) := Lib.hid (by simp [Pl.keys])
  clear ho2 hk2 HH
  go_wp2_with fail
  go_loopw [2, 8] (fun o i wr => ∃ j : Nat, j ≤ P.all.length ∧ i = .int .i64 j ∧ DirtyRel w2 P.all j o wr) (fun _ i _ => P.all.length - (intOf i).toNat)
  case atStart => exact ⟨0, Nat.zero_le _, rfl, HR0.out _⟩
  case round =>
    clear HR0
    obtain ⟨j, hj, rfl, ob, oc, rfl, ho, hkw⟩ := hrel
    · skip
      have HO := Lib.hid ho
      have HKW := Lib.hid hkw
      have hPr := HP.out.nob (HK2.out.then hkw)
      have c5 : wr.cell? ⟨b, 5, none⟩ = some (.map (some mb)) := cell_at hPr.head 5 _ rfl
      have HPr := Lib.hid hPr
      have HBd := Lib.hid (dirtyOf_len P.all j)
      clear hPr hkw ho
      by_cases hlt : j < P.all.length
      · have hmem := List.getElem_mem hlt
        have HT := Lib.hid (dirtyOf_take P.all j hlt)
        obtain ⟨gb, go, xv, rfl, hx, hc, -⟩ := (HO2.out.kept HKW.out (fun _ _ f => f)).cell (i := j) (by rw [HL.out]; exact hlt)
        obtain rfl : xv = .int .i64 P.all[j].1 := by
          rw [Pl.keys, List.getElem?_map, List.getElem?_eq_getElem hlt] at hx
          exact (Option.some.inj hx).symm
        clear hx
        obtain ⟨key, x, he⟩ : ∃ key x, P.all[j] = (key, x) := ⟨_, _, rfl⟩
        rw [he] at hmem HT hc
        clear he
        have hlk := HPr.out.look HKy.out hmem
        have hb := (HPr.out.held _ hmem).2
        have d2 : wr.cell? ⟨x.g, 2, none⟩ = some (.bool x.dirty) := cell_at hb 2 _ rfl
        have hgl : x.g < wr.heap.size := (Array.getElem?_eq_some_iff.1 hb).1
        clear hb hmem
        cases hdt : x.dirty with
        | false =>
          rw [hdt] at d2
          have HN : Hid (DirtyRel w2 P.all (j + 1) (.slice ob (dirtyOf (P.all.take j)).length oc) wr) := by
            have e : dirtyOf (P.all.take (j + 1)) = dirtyOf (P.all.take j) := by rw [HT.out]; simp [hdt]
            refine Lib.hid ⟨ob, oc, by rw [e], by rw [e]; exact HO.out, HKW.out⟩
          clear hdt
          generalize dirtyOf (P.all.take j) = zs at *
          go_wp2_with fail
          go_roundw
          case rel => exact ⟨j + 1, by omega, by go_num, HN.out⟩
          case measure => simp [intOf]; omega
        | true =>
          rw [hdt] at d2
          have HE : Hid (dirtyOf (P.all.take (j + 1)) = dirtyOf (P.all.take j) ++ [Value.int .i64 key]) := Lib.hid (by rw [HT.out]; simp [hdt])
          clear hdt HT
          generalize dirtyOf (P.all.take j) = zs at *
          go_wp2_with (at_builtin; refine wpList_append1_pg rfl _ _ 36 rfl tInts (.slice ob zs.length oc) zs (.int .i64 key) (From w2.heap.size) ⟨wr.heap.size, 0, none⟩ 1 rfl rfl (HO.out.alloc _) (by simp) rfl (Nat.le_refl _) rfl (by have := HBd.out; omega) ?_; intro g2 cap2 w4 ho4 hk4; have HO4 := Lib.hid ho4; have HK4 := Lib.hid hk4; clear ho4 hk4)
          have HN : Hid (DirtyRel w2 P.all (j + 1) (.slice (some ⟨g2, 0, none⟩) (zs.length + 1) cap2) w4) := by
            have hl : (zs ++ [Value.int .i64 key]).length = zs.length + 1 := by simp
            refine Lib.hid ⟨some ⟨g2, 0, none⟩, cap2, by rw [HE.out, hl], ?_, ?_⟩
            · rw [HE.out]
              refine HO4.out.mono fun x _ hx => ?_
              rcases hx with hx | hx
              · exact HO.out.2 x hx
              · have := HKW.out.size; simp at hx; show _ ≤ _; omega
            · exact (HKW.out.then (Kept.alloc Nob wr _)).from (Nat.le_refl _) (HK4.out.mono fun x _ hx => HO.out.2 x hx)
          go_roundw
          case rel => exact ⟨j + 1, by omega, by go_num, HN.out⟩
          case measure => simp [intOf]; omega
      · have hjl : j = P.all.length := by omega
        subst hjl
        rw [List.take_of_length_le (Nat.le_refl _)] at HO ⊢
        go_wp2_with fail
        go_ret
        exact ⟨ob, oc, rfl, HO.out.mono fun x _ hx => Nat.le_trans HK2.out.size hx, HK2.out.then HKW.out⟩
set_option maxRecDepth 100000 in
set_option maxHeartbeats 2000000 in
theorem pool_new_no (w : World) (bd : Nat) (d : Dsk) (F : Nat → Prop) (hD : DiskAt w bd d F) (pages room : Int) (h : pages < 1 ∨ ((d.good.length / 8 : Nat) : Int) < pages ∨ room < 1 ∨ 100 < room) :
    Calls Tryz.prog 11 #[.pointer (some ⟨bd, 0, none⟩), .int .i64 pages, .int .i64 room] w (RetNoPool w) := by
  have HLen := Lib.hid (disk_len w bd d F hD)
  have hmost := hD.wf.most
  have HC := fun w => Lib.hid (fault_new w opPool 0 1)
  unfold opPool at HC
  clear hD
  generalize d.good.length = n at *
  go_enter Tryz.func11, Tryz.ntmps11
  rcases (show pages < 1 ∨ (1 ≤ pages ∧ ((n / 8 : Nat) : Int) < pages) ∨ (1 ≤ pages ∧ pages ≤ ((n / 8 : Nat) : Int) ∧ room < 1) ∨ (1 ≤ pages ∧ pages ≤ ((n / 8 : Nat) : Int) ∧ 1 ≤ room ∧ 100 < room) by omega) with h | ⟨h', h⟩ | ⟨h', h'', h⟩ | ⟨h', h'', h''', h⟩
  all_goals
    go_wp2_with (first
      | (go_at_call 33; refine HLen.out.mono ?_; rintro e w' ⟨rfl, rfl⟩)
      | (go_at_call 31; refine (HC _).out.mono ?_; rintro e w2 ⟨g1, rfl, ho1, hk1⟩))
    go_ret2
    exact ⟨g1, rfl, ho1, hk1⟩
end Go.Proofs.YthppgchmamonnaaGreatDoor
