/- The pool: Flush, whatever the disk answers. -/
import Derived.Test.YthppgchmamonnaaGreatDoorPq26
import Derived.Test.YthppgchmamonnaaGreatDoorPq33
namespace Go.Proofs.YthppgchmamonnaaGreatDoor
open Go.RowKit
def prsOf (con : Nat → PgM) (l : List (Int × Hd)) : List (Nat × PgM) := l.map fun p => (p.1.toNat, con p.2.pg)
theorem prsOf_take (con : Nat → PgM) (l : List (Int × Hd)) (j : Nat) : prsOf con (l.take j) = (prsOf con l).take j := by unfold prsOf; rw [List.map_take]
theorem prsOf_len (con : Nat → PgM) (l : List (Int × Hd)) : (prsOf con l).length = l.length := by simp [prsOf]
theorem LiveAt.write_any {w0 w : World} {bd b mb : Nat} {d : Dsk} {F S K R : Nat → Prop} {P : Pl} {con : Nat → PgM} (L : LiveAt w0 w bd b mb d F P S K R con) (ho : d.ops ≤ 1000000000000) (k : Int) (x : Hd) (hx : (k, x) ∈ P.all) :
    Calls Tryz.prog 42 #[.pointer (some ⟨b, 0, none⟩), .int .i64 k] w fun e w' => ∃ v, e = .returned v ∧
      MaybeInner w' v (d.wr (8 * k.toNat) (bytesOf (con x.pg)) 8).2 (From w.heap.size) ∧ (∃ F', LiveAt w0 w' bd b mb (d.wr (8 * k.toNat) (bytesOf (con x.pg)) 8).1 F' P S K R con ∧ Grows F w.heap.size F') ∧ Kept F w w' := by
  have hxk := L.keyed _ hx
  simp only at hxk
  obtain ⟨hKp, hid⟩ := L.held _ hx
  obtain ⟨hpa, hfi⟩ := L.page _ hKp
  have hpgs := L.pages
  have hfit := L.fit
  have hxe : ((k.toNat : Nat) : Int) = k := by omega
  have := pool_write_any w b bd mb P S L.pool L.kd k.toNat x (by rw [hxe]; exact hx) (by omega) (con x.pg) R hpa ⟨hfi.good.len, fun s hs => Nat.le_trans (hfi.good.size s hs) (by omega)⟩ hfi.good.used d F L.disk L.Fb (by omega) (by omega)
  rw [hxe] at this
  refine this.mono ?_
  rintro e w' ⟨v, rfl, hmi, ⟨F', hd, hg⟩, hk⟩
  refine ⟨v, rfl, hmi, ⟨F', L.next (L.pool.kept hk L.Fb L.Fm L.FS.symm) hd hk hg (Grows.refl _ _) (fun y hf hs => ?_) (fun y _ q => .inl q) ?_ rfl rfl L.keyed L.used L.len L.held, hg⟩, hk⟩
  · rcases hg y hf with f | f
    · exact L.FS y f hs
    · have := L.pool.under y hs; omega
  · rw [Dsk.wr_good]
theorem LiveAt.sync_any {w0 w : World} {bd b mb : Nat} {d : Dsk} {F S K R : Nat → Prop} {P : Pl} {con : Nat → PgM} (L : LiveAt w0 w bd b mb d F P S K R con) (ho : d.ops ≤ 1000000000000) :
    Calls Tryz.prog 43 #[.pointer (some ⟨bd, 0, none⟩)] w fun e w' => ∃ v, e = .returned v ∧
      MaybeInner w' v d.sync.2 (From w.heap.size) ∧ (∃ F', LiveAt w0 w' bd b mb d.sync.1 F' P S K R con ∧ Grows F w.heap.size F') ∧ Kept F w w' := by
  refine (disk_sync_any w bd d F L.disk (by omega)).mono ?_
  intro e w' h
  have h' : ∃ v, e = .returned v ∧ MaybeInner w' v d.sync.2 (From w.heap.size) ∧ (∃ F', DiskAt w' bd d.sync.1 F' ∧ Grows F w.heap.size F') ∧ Kept F w w' := by
    by_cases hc : d.sync.2 = 0
    · rw [hc] at h
      obtain ⟨q1, F', q2, q3, q4⟩ := h.zero
      exact ⟨_, q1, .inl ⟨by rw [hc]; rfl, rfl⟩, ⟨F', q2, q3⟩, q4⟩
    · obtain ⟨g, q1, c1, c2, q2, q3, q4⟩ := h.pos hc
      exact ⟨_, q1, .inr ⟨by omega, by omega, q2⟩, q3, q4⟩
  obtain ⟨v, rfl, hmi, ⟨F', hd, hg⟩, hk⟩ := h'
  refine ⟨v, rfl, hmi, ⟨F', L.next (L.pool.kept hk L.Fb L.Fm L.FS.symm) hd hk hg (Grows.refl _ _) (fun y hf hs => ?_) (fun y _ q => .inl q) ?_ rfl rfl L.keyed L.used L.len L.held, hg⟩, hk⟩
  · rcases hg y hf with f | f
    · exact L.FS y f hs
    · have := L.pool.under y hs; omega
  · rw [Dsk.sync_len]
def WroteAny (w0 w2 : World) (bd b mb : Nat) (d : Dsk) (F : Nat → Prop) (P : Pl) (S K R : Nat → Prop) (con : Nat → PgM) (j : Nat) (wr : World) : Prop :=
  (d.wrL (prsOf con (P.ripe.take j))).2 = 0 ∧ ∃ F', LiveAt w0 wr bd b mb (d.wrL (prsOf con (P.ripe.take j))).1 F' P S K R con ∧ Grows F w2.heap.size F' ∧ Kept F w2 wr
def Pl.flushA (P : Pl) (con : Nat → PgM) (d : Dsk) : Dsk × Pl × Nat :=
  if P.ripe = [] then (d, P, 0)
  else if (d.wrL (prsOf con P.ripe)).2 ≠ 0 then ((d.wrL (prsOf con P.ripe)).1, P, (d.wrL (prsOf con P.ripe)).2)
  else if (d.wrL (prsOf con P.ripe)).1.sync.2 ≠ 0 then ((d.wrL (prsOf con P.ripe)).1.sync.1, P, (d.wrL (prsOf con P.ripe)).1.sync.2)
  else ((d.wrL (prsOf con P.ripe)).1.sync.1, P.flushP, 0)
def RetFlush (w0 w : World) (bd b mb : Nat) (F : Nat → Prop) (S K R : Nat → Prop) (con : Nat → PgM) (d : Dsk) (P : Pl) (c : Nat) (e : Ending) (w' : World) : Prop :=
  ∃ v, e = .returned v ∧ MaybeOuter w' v opPool 0 c (From w.heap.size) ∧ (∃ F', LiveAt w0 w' bd b mb d F' P S K R con ∧ Grows F w.heap.size F') ∧ Kept (fun x => F x ∨ PoolF b mb S x) w w'
set_option maxRecDepth 100000 in
set_option maxHeartbeats 8000000 in
theorem LiveAt.flush_any {w0 w : World} {bd b mb : Nat} {d : Dsk} {F S K R : Nat → Prop} {P : Pl} {con : Nat → PgM} (L : LiveAt w0 w bd b mb d F P S K R con) (ho : d.ops ≤ 1000000000) (hw : P.wrote ≤ 1000000000000) :
    Calls Tryz.prog 21 #[.pointer (some ⟨b, 0, none⟩)] w (RetFlush w0 w bd b mb F S K R con (P.flushA con d).1 (P.flushA con d).2.1 (P.flushA con d).2.2) := by
  have hlen := L.len
  have hroom := L.room
  have HL := Lib.hid L
  have HD := Lib.hid (pool_dirty w b bd mb P S L.pool L.kd (by omega))
  obtain ⟨E, hE⟩ : ∃ E, P.flushA con d = E := ⟨_, rfl⟩
  rw [hE]
  have HE := Lib.hid hE
  clear hE
  have hrl := P.ripe_len
  clear L
  go_enter Tryz.func21, Tryz.ntmps21
  go_wp2_with fail
  refine HD.out.mono ?_
  rintro e w1 ⟨a1, c1, rfl, ho1, hk1⟩
  have HO1 := Lib.hid ho1.reads
  have HK1 := Lib.hid hk1
  have HD1 : Hid (w.heap.size ≤ w1.heap.size) := Lib.hid hk1.size
  have HR0 : Hid (RipeRel w1 (ripeOf P.mark ((P.all.filter fun p => p.2.dirty).take 0)) (.slice none 0 0) w1) := Lib.hid ⟨none, 0, rfl, Own.nil _ _ _, Kept.refl _ _⟩
  have HDl : Hid ((dirtyOf P.all).length = (P.all.filter fun p => p.2.dirty).length) := Lib.hid (by simp [dirtyOf])
  have HDn : Hid (∀ j (h : j < (P.all.filter fun p => p.2.dirty).length), (dirtyOf P.all)[j]? = some (.int .i64 (P.all.filter fun p => p.2.dirty)[j].1)) := Lib.hid fun j h => by
    rw [dirtyOf, List.getElem?_map, List.getElem?_eq_getElem h]; rfl
  have HDm : Hid (∀ p ∈ (P.all.filter fun p => p.2.dirty), p ∈ P.all) := Lib.hid fun p h => (List.mem_filter.1 h).1
  have HRp : Hid (P.ripe = ripeOf P.mark (P.all.filter fun p => p.2.dirty)) := Lib.hid rfl
  have hdl : (P.all.filter fun p => p.2.dirty).length ≤ P.all.length := List.length_filter_le _ _
  rw [HDl.out] at HO1 ⊢
  clear ho1 hk1 HD
  generalize (P.all.filter fun p => p.2.dirty) = D at *
  go_wp2_with fail
  go_loopw [3, 15] (fun o i wr => ∃ j : Nat, j ≤ D.length ∧ i = .int .i64 j ∧ RipeRel w1 (ripeOf P.mark (D.take j)) o wr) (fun _ i _ => D.length - (intOf i).toNat)
  case atStart => exact ⟨0, Nat.zero_le _, rfl, HR0.out⟩
  case round =>
    clear HR0
    obtain ⟨j, hj, rfl, ob, oc, rfl, ho1, hkw⟩ := hrel
    have HO := Lib.hid ho1
    have HKW := Lib.hid hkw
    have hPr := HL.out.pool.nob (HK1.out.then hkw)
    have c5 : wr.cell? ⟨b, 5, none⟩ = some (.map (some mb)) := cell_at hPr.head 5 _ rfl
    have c3 : wr.cell? ⟨b, 3, none⟩ = some (.int .i64 P.mark) := cell_at hPr.head 3 _ rfl
    have HPr := Lib.hid hPr
    have hbl : b < wr.heap.size := hPr.lt
    have HBd : Hid ((ripeOf P.mark (D.take j)).length ≤ D.length) := Lib.hid (Nat.le_trans (List.length_filter_le _ _) (by rw [List.length_take]; omega))
    clear hPr hkw ho1
    by_cases hlt : j < D.length
    · have hmem := HDm.out _ (List.getElem_mem hlt)
      have HT := Lib.hid (ripeOf_take P.mark D j hlt)
      obtain ⟨gb, go, xv, rfl, hx, hc, -⟩ := (HO1.out.kept HKW.out (fun _ _ f => f)).cell (i := j) (by rw [HDl.out]; exact hlt)
      obtain rfl : xv = .int .i64 D[j].1 := by
        rw [HDn.out j hlt] at hx
        exact (Option.some.inj hx).symm
      clear hx
      obtain ⟨key, x, he⟩ : ∃ key x, D[j] = (key, x) := ⟨_, _, rfl⟩
      rw [he] at hmem HT hc
      clear he
      have hlk := fun n => (HPr.out.nob (Kept.drewN Nob wr n)).look HL.out.kd hmem
      have hb := (HPr.out.held _ hmem).2
      have d3 : wr.cell? ⟨x.g, 3, none⟩ = some (.int .i64 x.lsn) := cell_at hb 3 _ rfl
      have hgl : x.g < wr.heap.size := (Array.getElem?_eq_some_iff.1 hb).1
      clear hb hmem
      by_cases hdt : x.lsn ≤ P.mark
      · have hd : decide (x.lsn ≤ P.mark) = true := decide_eq_true hdt
        have HE : Hid (ripeOf P.mark (D.take (j + 1)) = ripeOf P.mark (D.take j) ++ [(key, x)]) := Lib.hid (by rw [HT.out]; simp [hdt])
        clear hdt HT
        generalize ripeOf P.mark (D.take j) = zs at *
        have hkl : (keysOf zs).length = zs.length := by simp [keysOf]
        have HKl := Lib.hid hkl
        clear hkl
        go_wp2_with fail
        go_quiet (fail)
        have HKq : Hid (Kept Nob wr (wr.drewN nq)) := Lib.hid (Kept.drewN _ _ _)
        have HOq := Lib.hid (HO.out.kept HKq.out (fun _ _ f => f))
        clear hlk d3 c5 c3 hc
        generalize wr.drewN nq = wq at *
        go_wp2_with (at_builtin; refine wpList_append1_pg rfl _ _ 36 rfl tInts (.slice ob zs.length oc) (keysOf zs) (.int .i64 key) (From w1.heap.size) ⟨wq.heap.size, 0, none⟩ 1 rfl rfl (HOq.out.alloc _) (by simp) rfl (Nat.le_refl _) rfl (by rw [HKl.out]; have := HBd.out; omega) ?_; intro g2 cap2 w4 ho4 hk4; rw [HKl.out] at ho4 ⊢; have HO4 := Lib.hid ho4; have HK4 := Lib.hid hk4; clear ho4 hk4)
        have HN : Hid (RipeRel w1 (ripeOf P.mark (D.take (j + 1))) (.slice (some ⟨g2, 0, none⟩) (zs.length + 1) cap2) w4) := by
          have hl : (zs ++ [(key, x)]).length = zs.length + 1 := by simp
          refine Lib.hid ⟨some ⟨g2, 0, none⟩, cap2, by rw [HE.out, hl], ?_, ?_⟩
          · rw [HE.out]
            rw [show keysOf (zs ++ [(key, x)]) = keysOf zs ++ [.int .i64 key] from by simp [keysOf]]
            refine HO4.out.mono fun x _ hx => ?_
            rcases hx with hx | hx
            · exact HO.out.2 x hx
            · have := (HKW.out.then HKq.out).size; simp at hx; show _ ≤ _; omega
          · exact ((HKW.out.then HKq.out).then (Kept.alloc Nob wq _)).from (Nat.le_refl _) (HK4.out.mono fun x _ hx => HO.out.2 x hx)
        go_roundw
        case rel => exact ⟨j + 1, by omega, by go_num, HN.out⟩
        case measure => simp [intOf]; omega
      · have hd : decide (x.lsn ≤ P.mark) = false := decide_eq_false hdt
        have HN : Hid (∀ W, Kept Nob wr W → RipeRel w1 (ripeOf P.mark (D.take (j + 1))) (.slice ob (ripeOf P.mark (D.take j)).length oc) W) := by
          have e : ripeOf P.mark (D.take (j + 1)) = ripeOf P.mark (D.take j) := by rw [HT.out]; simp [hdt]
          refine Lib.hid fun W q => ⟨ob, oc, by rw [e], by rw [e]; exact HO.out.kept q (fun _ _ f => f), HKW.out.then q⟩
        clear hdt
        generalize ripeOf P.mark (D.take j) = zs at *
        go_wp2_with fail
        go_quiet (fail)
        have HN2 := Lib.hid (HN.out _ (Kept.drewN Nob wr nq))
        clear hlk d3 c5 c3 hc
        go_wp2_with fail
        go_roundw
        case rel => exact ⟨j + 1, by omega, by go_num, HN2.out⟩
        case measure => simp [intOf]; omega
    · have hjl : j = D.length := by omega
      subst hjl
      rw [List.take_of_length_le (Nat.le_refl _), ← HRp.out] at HO ⊢
      have HKw := Lib.hid (HK1.out.then HKW.out)
      have HLr := Lib.hid (HL.out.nob HKw.out)
      clear HO1 HDl HDn HDm HRp HK1 HKW HPr HBd c3 c5 hj hlt
      by_cases hz : P.ripe = []
      · have HF : Hid (E = (d, P, 0)) := Lib.hid (by rw [← HE.out]; unfold Pl.flushA; rw [if_pos hz])
        rw [hz]
        clear hz HO
        go_wp2_with fail
        go_ret
        rw [HF.out]
        exact ⟨_, rfl, .inl ⟨rfl, rfl⟩, ⟨F, HLr.out, Grows.refl _ _⟩, HKw.out.nob⟩
      · have hz1 : 1 ≤ P.ripe.length := List.length_pos_iff.2 hz
        have hz2 : ((P.ripe.length : Int) == 0) = false := by simp; omega
        have HZ := Lib.hid hz
        clear hz
        have HS0 : Hid (WroteAny w0 wr bd b mb d F P S K R con 0 wr) := Lib.hid ⟨rfl, F, HLr.out, Grows.refl _ _, Kept.refl _ _⟩
        have HRl : Hid (keysOf P.ripe = keysOf P.ripe ∧ (keysOf P.ripe).length = P.ripe.length) := Lib.hid ⟨rfl, by simp [keysOf]⟩
        have HRn : Hid (∀ j (h : j < P.ripe.length), (keysOf P.ripe)[j]? = some (.int .i64 P.ripe[j].1)) := Lib.hid fun j h => by
          rw [keysOf, List.getElem?_map, List.getElem?_eq_getElem h]; rfl
        have HRm : Hid (∀ p ∈ P.ripe, p ∈ P.all) := Lib.hid fun p h => (Pl.ripe_mem.1 h).1
        have HAp := Lib.hid HLr.out.pool.apart
        have HFu : Hid (∀ x, From w1.heap.size x → ¬ F x ∧ ¬ PoolF b mb S x) := Lib.hid fun x hx => by
          have hx : w1.heap.size ≤ x := hx
          have hs := HD1.out
          refine ⟨fun f => by have := HL.out.disk.under x f; omega, ?_⟩
          rintro (e | e | e)
          · have := HL.out.pool.lt; omega
          · have := HL.out.pool.map.lt; omega
          · have := HL.out.pool.under x e; omega
        have HOr := Lib.hid HO.out.reads
        clear HO
        generalize wr = wA at *
        go_wp2_with fail
        go_loopw [43] (fun i wy => ∃ j : Nat, j ≤ P.ripe.length ∧ i = .int .i64 j ∧ WroteAny w0 wA bd b mb d F P S K R con j wy) (fun i _ => P.ripe.length - (intOf i).toNat)
        case atStart => exact ⟨0, Nat.zero_le _, rfl, HS0.out⟩
        case round =>
          clear HS0
          obtain ⟨j, hj, rfl, hw0, F1, hL1, hg1, hk1⟩ := hrel
          have HW0 := Lib.hid hw0
          clear hw0
          have HL1 := Lib.hid hL1
          have HG1 := Lib.hid hg1
          have HK1 := Lib.hid hk1
          clear hL1 hg1 hk1
          by_cases hlt : j < P.ripe.length
          · obtain ⟨gb, go, xv, rfl, hx, hc, -⟩ := (HOr.out.kept HK1.out (fun x hx f => (HFu.out x hx).1 f)).cell (i := j) (by rw [HRl.out.2]; exact hlt)
            obtain rfl : xv = .int .i64 P.ripe[j].1 := by
              rw [HRn.out j hlt] at hx
              exact (Option.some.inj hx).symm
            clear hx
            have hpo := Dsk.wrL_ops d (prsOf con P.ripe) j (by rw [prsOf_len]; omega)
            rw [← prsOf_take] at hpo
            have HW := HL1.out.write_any (by omega) P.ripe[j].1 P.ripe[j].2 (HRm.out _ (List.getElem_mem hlt))
            have hst := Dsk.wrL_take d (prsOf con P.ripe) j (by rw [prsOf_len]; exact hlt)
            rw [← prsOf_take, ← prsOf_take] at hst
            have hpj : (prsOf con P.ripe)[j]'(by rw [prsOf_len]; exact hlt) = (P.ripe[j].1.toNat, con P.ripe[j].2.pg) := by simp [prsOf]
            rw [hpj] at hst
            have hst2 : d.wrL (prsOf con (P.ripe.take (j + 1))) = (d.wrL (prsOf con (P.ripe.take j))).1.wr (8 * P.ripe[j].1.toNat) (bytesOf (con P.ripe[j].2.pg)) 8 := by rw [hst]; unfold Dsk.wrStep; rw [if_pos HW0.out]
            rw [← hst2] at HW
            have HWr := Lib.hid HW
            clear HW hpo hst hst2 hpj
            generalize P.ripe[j] = pj at *
            go_wp2_with fail
            refine HWr.out.mono ?_
            rintro e w4 ⟨v, rfl, hmi, ⟨F2, hL2, hg2⟩, hk2⟩
            have HL2 := Lib.hid hL2
            have HG2 := Lib.hid hg2
            have HK2 := Lib.hid hk2
            clear hL2 hg2 hk2 HWr hc
            rcases hmi with ⟨hc0, rfl⟩ | ⟨h1, h2, hin⟩
            · have HN : Hid (WroteAny w0 wA bd b mb d F P S K R con (j + 1) w4) := Lib.hid ⟨by omega, F2, HL2.out, HG1.out.trans HG2.out HK1.out.size, HK1.out.trans HK2.out fun x hx f => (HG1.out x f).elim id fun e => absurd e (by omega)⟩
              clear hc0
              go_wp2_with fail
              go_roundw
              case rel => exact ⟨j + 1, by omega, by go_num, HN.out⟩
              case measure => simp [intOf]; omega
            · have HC := Lib.hid (fault_new_in w4 opPool 0 v _ _ hin)
              unfold opPool at HC
              have HEq : Hid (E = ((d.wrL (prsOf con (P.ripe.take (j + 1)))).1, P, (d.wrL (prsOf con (P.ripe.take (j + 1)))).2)) := Lib.hid (by
                have hne : (d.wrL (prsOf con (P.ripe.take (j + 1)))).2 ≠ 0 := by omega
                have hall : d.wrL (prsOf con P.ripe) = d.wrL (prsOf con (P.ripe.take (j + 1))) := by
                  rw [prsOf_take] at hne ⊢
                  exact Dsk.wrL_stays hne
                rw [← HE.out]
                unfold Pl.flushA
                rw [if_neg HZ.out, hall, if_pos hne])
              have HCd := Lib.hid (And.intro h1 h2)
              clear h1 h2
              rcases hin with rfl | ⟨op, nr, g, rfl, -⟩
              all_goals
                go_wp2_with (go_at_call 31; (with_reducible refine HC.out.mono ?_); rintro e w5 ⟨u, rfl, ho5, hk5⟩; have HO5 := Lib.hid ho5; have HK5 := Lib.hid hk5; clear ho5 hk5)
                go_ret
                have s1 := HKw.out.size
                have s2 := HK1.out.size
                have s3 := HK2.out.size
                rw [HEq.out]
                refine ⟨_, rfl, .inr ⟨HCd.out.1, HCd.out.2, HO5.out.mono fun x _ hx => ?_⟩, ⟨F2, HL2.out.nob HK5.out, fun x hx => ?_⟩, ?_⟩
                · rcases hx with hx | hx
                  · have hx : wr.heap.size ≤ x := hx; show _ ≤ _; omega
                  · show _ ≤ _; omega
                · rcases HG2.out x hx with e | e
                  · exact (HG1.out x e).imp (fun e => e) fun e => by omega
                  · exact .inr (by omega)
                · exact ((HKw.out.nob.trans' (HK1.out.trans HK2.out fun x hx f => (HG1.out x f).elim id fun e => absurd e (by omega))).mono fun x _ f => .inl f).then HK5.out
          · have hje : j = P.ripe.length := by omega
            subst hje
            rw [List.take_of_length_le (Nat.le_refl _)] at HL1
            have hpo := Dsk.wrL_ops d (prsOf con P.ripe) P.ripe.length (by rw [prsOf_len]; exact Nat.le_refl _)
            rw [List.take_of_length_le (by rw [prsOf_len]; exact Nat.le_refl _)] at hpo
            rw [List.take_of_length_le (Nat.le_refl _)] at HW0
            have HSy := Lib.hid (HL1.out.sync_any (by omega))
            have c0 : wr.cell? ⟨b, 0, none⟩ = some (.pointer (some ⟨bd, 0, none⟩)) := cell_at HL1.out.pool.head 0 _ rfl
            clear hpo
            go_wp2_with fail
            refine HSy.out.mono ?_
            rintro e wB ⟨v, rfl, hmi, ⟨F2, hL2, hg2⟩, hk2⟩
            have HG2 := Lib.hid hg2
            have HKx := Lib.hid hk2
            have HKB : Hid (Kept F wA wB) := Lib.hid (HK1.out.trans hk2 fun x hx f => (HG1.out x f).elim id fun e => absurd e (by omega))
            have HGB : Hid (Grows F wA.heap.size F2) := Lib.hid (HG1.out.trans hg2 HK1.out.size)
            have HOb := Lib.hid (HOr.out.kept HKB.out (fun x hx f => (HFu.out x hx).1 f))
            have HL2 := Lib.hid hL2
            have HC0 : Hid (CleanRel w0 wB bd b mb (d.wrL (prsOf con P.ripe)).1.sync.1 F2 P S K R con 0 wB) := Lib.hid ⟨hL2, Kept.refl _ _⟩
            clear hL2 hg2 hk2 HSy c0
            rcases hmi with ⟨hc0, rfl⟩ | ⟨h1, h2, hin⟩
            rotate_left
            · have HC := Lib.hid (fault_new_in wB opPool 0 v _ _ hin)
              unfold opPool at HC
              have HEq : Hid (E = ((d.wrL (prsOf con P.ripe)).1.sync.1, P, (d.wrL (prsOf con P.ripe)).1.sync.2)) := Lib.hid (by
                rw [← HE.out]
                unfold Pl.flushA
                rw [if_neg HZ.out, if_neg (by rw [HW0.out]; simp), if_pos (by omega)])
              have HCd := Lib.hid (And.intro h1 h2)
              have s2 := HK1.out.size
              have HSz := Lib.hid s2
              clear h1 h2 s2
              rcases hin with rfl | ⟨op, nr, g, rfl, -⟩
              all_goals
                go_wp2_with (go_at_call 31; (with_reducible refine HC.out.mono ?_); rintro e w5 ⟨u, rfl, ho5, hk5⟩; have HO5 := Lib.hid ho5; have HK5 := Lib.hid hk5; clear ho5 hk5)
                go_ret
                have s1 := HKw.out.size
                have s2 := HSz.out
                have s3 := HKx.out.size
                rw [HEq.out]
                refine ⟨_, rfl, .inr ⟨HCd.out.1, HCd.out.2, HO5.out.mono fun x _ hx => ?_⟩, ⟨F2, HL2.out.nob HK5.out, fun x hx => ?_⟩, ?_⟩
                · rcases hx with hx | hx
                  · have hx : wr.heap.size ≤ x := hx; show _ ≤ _; omega
                  · show _ ≤ _; omega
                · exact (HGB.out x hx).imp (fun e => e) fun e => by omega
                · exact ((HKw.out.nob.trans' HKB.out).mono fun x _ f => .inl f).then HK5.out
            have HEq : Hid (E = ((d.wrL (prsOf con P.ripe)).1.sync.1, P.flushP, 0)) := Lib.hid (by
              rw [← HE.out]
              unfold Pl.flushA
              rw [if_neg HZ.out, if_neg (by rw [HW0.out]; simp), if_neg (by omega)])
            clear hc0 HK1 HG1 HL1 HOr HG2 HKx HL2
            go_wp2_with fail
            go_loopw [66] (fun i wy => ∃ j : Nat, j ≤ P.ripe.length ∧ i = .int .i64 j ∧ CleanRel w0 wB bd b mb (d.wrL (prsOf con P.ripe)).1.sync.1 F2 P S K R con j wy) (fun i _ => P.ripe.length - (intOf i).toNat)
            case atStart => exact ⟨0, Nat.zero_le _, rfl, HC0.out⟩
            case round =>
              clear HC0
              obtain ⟨j, hj, rfl, hL1, hk1⟩ := hrel
              have HL1 := Lib.hid hL1
              have HK1 := Lib.hid hk1
              clear hL1 hk1
              by_cases hlt : j < P.ripe.length
              · obtain ⟨gb, go, xv, rfl, hx, hc, -⟩ := (HOb.out.kept HK1.out (fun x hx f => (HFu.out x hx).2 f)).cell (i := j) (by rw [HRl.out.2]; exact hlt)
                obtain rfl : xv = .int .i64 P.ripe[j].1 := by
                  rw [HRn.out j hlt] at hx
                  exact (Option.some.inj hx).symm
                clear hx
                have hmem : P.ripe[j] ∈ (Pl.cleaned (P.ripe.take j) P).all := Pl.cleaned_other _ _ _ (HRm.out _ (List.getElem_mem hlt)) fun x hx e => by
                  obtain ⟨i, hi, hxi⟩ := List.getElem_of_mem hx
                  have hi' : i < j := by rw [List.length_take] at hi; omega
                  rw [List.getElem_take] at hxi
                  exact (List.pairwise_iff_getElem.1 HAp.out i j (by omega) hlt hi') (by rw [hxi]; exact e.symm)
                have HSt := Lib.hid (HL1.out.cleanStep _ hmem)
                have HSu := Lib.hid (Pl.cleaned_succ P.ripe P j hlt)
                have hwj : (Pl.cleaned (P.ripe.take j) P).wrote = P.wrote + j := by
                  rw [(Pl.cleaned_keeps _ _).2.2.2.2.2.2.1, List.length_take]; omega
                have hhd := HL1.out.pool.head
                rw [hwj] at hhd HSt
                clear hwj
                have HKd := Lib.hid (HL1.out.kd)
                generalize P.ripe[j] = pj at *
                obtain ⟨key, x⟩ := pj
                have hlk := HL1.out.pool.look HKd.out hmem
                have hb := (HL1.out.pool.held _ hmem).2
                have hbl : b < wr.heap.size := HL1.out.pool.lt
                have hne : b ≠ x.g := fun e => HL1.out.pool.Sb (by rw [e]; exact (HL1.out.pool.held _ hmem).1)
                have c5 : wr.cell? ⟨b, 5, none⟩ = some (.map (some mb)) := cell_at hhd 5 _ rfl
                have c8 : wr.cell? ⟨b, 8, none⟩ = some (.int .i64 ((P.wrote + j : Nat) : Int)) := cell_at hhd 8 _ rfl
                have f8 := frozen_at hhd 8
                have d2 : wr.cell? ⟨x.g, 2, none⟩ = some (.bool x.dirty) := cell_at hb 2 _ rfl
                have e2 := frozen_at hb 2
                have hwb : P.wrote + j ≤ 2000000000000 := by omega
                clear hb hhd hmem
                generalize P.wrote + j = wj at *
                go_wp2_with fail
                have HN : Hid (CleanRel w0 wB bd b mb (d.wrL (prsOf con P.ripe)).1.sync.1 F2 P S K R con (j + 1) ((wr.setCell ⟨x.g, 2, none⟩ (.bool false)).setCell ⟨b, 8, none⟩ (.int .i64 ((wj : Int) + 1)))) := Lib.hid (by
                  obtain ⟨s1, s2⟩ := HSt.out
                  rw [← HSu.out] at s1
                  exact ⟨s1, HK1.out.trans' s2⟩)
                clear HSt HSu
                go_roundw
                case rel => exact ⟨j + 1, by omega, by go_num, HN.out⟩
                case measure => simp [intOf]; omega
              · have hje : j = P.ripe.length := by omega
                subst hje
                rw [List.take_of_length_le (Nat.le_refl _)] at HL1
                go_wp2_with fail
                go_ret
                rw [HEq.out]
                refine ⟨_, rfl, .inl ⟨rfl, rfl⟩, ⟨F2, HL1.out, fun x hx => (HGB.out x hx).imp id fun e => Nat.le_trans HKw.out.size e⟩, (HKw.out.nob.trans' (HKB.out.mono fun x _ f => .inl f)).trans' (HK1.out.mono fun x _ f => .inr f)⟩
end Go.Proofs.YthppgchmamonnaaGreatDoor
