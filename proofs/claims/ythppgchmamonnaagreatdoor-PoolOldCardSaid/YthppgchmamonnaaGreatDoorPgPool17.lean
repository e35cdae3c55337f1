/- Law: PoolOld. -/
import Derived.Test.YthppgchmamonnaaGreatDoorPgPool16
import Derived.Test.YthppgchmamonnaaGreatDoorPgOps
import Derived.Deep.DeepCutAuto
namespace Go.Proofs.YthppgchmamonnaaGreatDoor
open Go.RowKit

theorem OldRel.start {w0 w1 w : World} {bd b mb n room : Nat} {F : Nat → Prop} (hD : DiskAt w1 bd (Dsk.fresh n) F) (hF : ∀ x, F x → w0.heap.size ≤ x) (hk0 : Kept Nob w0 w1) (hp : PoolAt w b bd mb (Pl.none 10 room) (fun _ => False)) (hk : Kept Nob w1 w) (hb : w1.heap.size ≤ b) (hm : w1.heap.size ≤ mb) (hn : 80 ≤ n) (hr : room ≤ 100) :
    OldRel w0 w bd b mb (Dsk.fresh n) F room [] 0 0 Nob := by
  have hs := hk0.size
  refine ⟨Pl.none 10 room, _, [], ⟨hp, hD.kept hk (fun _ _ f => f), fun i hi => by simp [Dsk.fresh] at hi ⊢; simp [hi], by show 8 * 10 ≤ _; simp [Dsk.fresh]; omega, fun p hp => (by cases hp), fun p hp => (by cases hp), fun p hp => (by cases hp), Nat.zero_le _, hr, fun f => by have := hD.under _ f; omega, fun f => by have := hD.under _ f; omega, fun _ _ f => f, ?_, hk0.then hk⟩, rfl, rfl, ⟨List.Perm.refl _, List.Pairwise.nil, List.Pairwise.nil, fun p hp => (by cases hp)⟩, rfl, rfl, rfl, rfl, rfl, fun q hq => (by cases hq), fun x hx => hx.elim, fun x hx => hx.elim⟩
  rintro x (e | e | e | e)
  · exact hF x e
  · omega
  · omega
  · exact e.elim
/-- a row without one number -/
def flt (n : Int) (l : List Int) : List Int := l.filter fun x => !(x == n)
theorem flt_take (n : Int) (l : List Int) (q : Nat) (h : q < l.length) : flt n (l.take (q + 1)) = flt n (l.take q) ++ if (l[q] == n) = true then [] else [l[q]] := by
  rw [List.take_succ_eq_append_getElem h, flt, List.filter_append]
  unfold flt
  congr 1
  by_cases e : l[q] == n
  · simp [e]
  · simp [e]
theorem flt_length (n : Int) (l : List Int) (q : Nat) : (flt n (l.take q)).length ≤ l.length :=
  Nat.le_trans (List.length_filter_le _ _) (by rw [List.length_take]; omega)
/-- inside the law: the row that is to be the order -/
def NextRel (w4 : World) (n : Int) (os : List Int) (q : Nat) (v : Value) (wr : World) : Prop :=
  ∃ b c, v = .slice b (flt n (os.take q)).length c ∧ Own wr 3 v ((flt n (os.take q)).map (Value.int .i64)) (From w4.heap.size) ∧ Kept Nob w4 wr
/-- inside the law: the row's order, and the pool -/
def OldIn (w : World) (bd b mb : Nat) (d : Dsk) (F : Nat → Prop) (room : Nat) (v : Value) (os : List Int) (hits reads : Nat) (wr : World) : Prop :=
  ∃ X, OldRel w wr bd b mb d F room os hits reads X ∧ ∃ c a, v = .slice a os.length c ∧ Reads wr v (os.map (Value.int .i64)) X

set_option maxRecDepth 100000 in
set_option maxHeartbeats 4000000 in
theorem old_main (w : World) (v : Value) (xs : List Int) (G : Nat → Prop) (hl : Reads w v (xs.map (Value.int .i64)) G) (hx : xs.length ≤ 60) (room : Nat) (hr1 : 1 ≤ room) (hr2 : room ≤ 6) (hT : Typed w) :
    Calls Tryz.prog 4 #[v, .int .i64 room] w (RetTrue w) := by
  obtain ⟨va, vc, rfl, -⟩ := hl.shape
  rw [List.length_map] at hl ⊢
  have HT := Lib.hid hT
  have HL := Lib.hid hl
  clear hT hl
  go_enter Tryz.func4, Tryz.ntmps4
  go_wp2_with fail
  refine (disk_new w 80 (by omega) (by omega)).mono ?_
  rintro e w1 ⟨bd, rfl, hD1, hk1⟩
  have HN := Lib.hid (show Calls Tryz.prog 11 #[.pointer (some ⟨bd, 0, none⟩), .int .i64 10, .int .i64 room] w1 _ from pool_new w1 bd _ _ hD1 10 room (by omega) (by simp [Dsk.fresh]) hr1 (by omega))
  have HD1 := Lib.hid hD1
  have HK1 := Lib.hid hk1
  clear hD1 hk1
  go_wp2_with fail
  refine HN.out.mono ?_
  rintro e w2 ⟨rfl, hp2, hk2⟩
  have HR0 : Hid (OldIn w bd (w1.heap.size + 1) w1.heap.size (Dsk.fresh 80) (fun k => w.heap.size ≤ k ∧ k < w1.heap.size) room (.slice none 0 0) [] 0 0 w2) :=
    Lib.hid ⟨Nob, OldRel.start HD1.out (fun x h => h.1) HK1.out hp2 hk2 (by omega) (by omega) (by omega) (by omega), 0, none, rfl, .inl ⟨rfl, none, 0, rfl, fun _ => rfl⟩⟩
  have HOps : Hid ((Dsk.fresh 80).ops = 0) := Lib.hid rfl
  clear hp2 hk2 HN
  generalize (fun k => w.heap.size ≤ k ∧ k < w1.heap.size) = F at *
  generalize w1.heap.size + 1 = b at *
  generalize w1.heap.size = mb at *
  generalize Dsk.fresh 80 = d at *
  clear HD1 HK1
  go_wp2_with fail
  go_loopw [9, 10, 11] (fun o hi i wr => ∃ (k hits reads : Nat) (os : List Int), k ≤ xs.length ∧ i = .int .i64 k ∧ hi = .int .i64 hits ∧ hits + reads = k ∧ OldIn w bd b mb d F room o os hits reads wr) (fun _ _ i _ => xs.length - (intOf i).toNat)
  case atStart => exact ⟨0, 0, 0, [], Nat.zero_le _, rfl, rfl, rfl, HR0.out⟩
  case round =>
    clear HR0
    obtain ⟨k, hits, reads, os, hk, rfl, rfl, hhr, X, hold, oc, oa, rfl, hor⟩ := hrel
    have HO := Lib.hid hold
    have HOr := Lib.hid hor
    have HHr := Lib.hid hhr
    clear hold hor hhr
    by_cases hlt : k < xs.length
    · obtain ⟨gb, go, xv, rfl, hxv, hc, -⟩ := (HL.out.kept HO.out.kept (fun _ _ f => f)).cell (i := k) (by rw [List.length_map]; exact hlt)
      obtain rfl : xv = .int .i64 xs[k] := by
        rw [List.getElem?_map, List.getElem?_eq_getElem hlt] at hxv
        exact (Option.some.inj hxv).symm
      clear hxv
      obtain ⟨n, hn⟩ : ∃ n : Nat, xs[k] % 10 = (n : Int) := ⟨(xs[k] % 10).toNat, by omega⟩
      have hn10 : n < 10 := by omega
      have hrd := round_any wr xs[k] 10 (by omega) (by omega)
      rw [hn] at hrd
      have HRd := Lib.hid hrd
      have HTn := Lib.hid (HO.out.turn (by have := HHr.out; omega) hr1 n hn10)
      clear hn hrd
      generalize xs[k] = xk at *
      go_wp2_with (go_at_call 17; (with_reducible refine HRd.out.mono ?_); rintro e w' ⟨rfl, rfl⟩)
      refine HTn.out.mono ?_
      rintro e w3 ⟨pg, rfl, hun⟩
      have HUn := Lib.hid hun
      clear hun HTn HRd hc
      go_wp2_with (go_at_call 14; (with_reducible refine HUn.out.mono ?_); rintro e w4 ⟨rfl, ho4, hk4⟩; have HO4 := Lib.hid ho4; have HK4 := Lib.hid hk4; clear ho4 hk4)
      have HOr4 := Lib.hid (HOr.out.kept HK4.out (fun x hx hn => hn hx))
      have HNd := Lib.hid HO.out.nodup
      have hob := HNd.out.2
      have hb60 : hits ≤ 60 := by have := HHr.out; omega
      clear HUn HO HOr HK4
      go_loopw [15, 16, 17] (fun o m i wr => ∃ q : Nat, q ≤ os.length ∧ i = .int .i64 q ∧ m = .bool (decide ((n : Int) ∈ os.take q)) ∧ NextRel w4 n os q o wr) (fun _ _ i _ => os.length - (intOf i).toNat)
      case atStart => exact ⟨0, Nat.zero_le _, rfl, by simp, none, 0, rfl, Own.nil _ _ _, Kept.refl _ _⟩
      case round =>
        obtain ⟨q, hq, rfl, rfl, nb, nc, rfl, hnx, hkn⟩ := hrel
        have HNx := Lib.hid hnx
        have HKN := Lib.hid hkn
        clear hnx hkn
        by_cases hql : q < os.length
        · obtain ⟨gq, gr, xq, hvq, hxq, hcq, -⟩ := (HOr4.out.kept HKN.out (fun _ _ f => f)).cell (i := q) (by rw [List.length_map]; exact hql)
          obtain rfl : xq = .int .i64 os[q] := by
            rw [List.getElem?_map, List.getElem?_eq_getElem hql] at hxq
            exact (Option.some.inj hxq).symm
          clear hxq
          subst hvq
          have HFt := Lib.hid (flt_take (n : Int) os q hql)
          have HTk : Hid (os.take (q + 1) = os.take q ++ [os[q]]) := Lib.hid (List.take_succ_eq_append_getElem hql)
          have HFl : Hid ((flt n (os.take q)).length ≤ room) := Lib.hid (Nat.le_trans (flt_length _ _ _) HNd.out.2)
          have hgl : gq < wr.heap.size := cell_lt hcq
          generalize os[q] = xq at *
          by_cases hxe : xq = (n : Int)
          · have hb : (xq == (n : Int)) = true := by simpa using hxe
            have hd2 : Hid (decide ((n : Int) ∈ os.take (q + 1)) = true) := Lib.hid (decide_eq_true (by rw [HTk.out, hxe]; simp))
            have HN : Hid (NextRel w4 n os (q + 1) (.slice nb (flt n (os.take q)).length nc) wr) := by
              have e : flt n (os.take (q + 1)) = flt n (os.take q) := by rw [HFt.out]; simp [hb]
              exact Lib.hid ⟨nb, nc, by rw [e], by rw [e]; exact HNx.out, HKN.out⟩
            clear hxe
            go_wp2_with fail
            go_roundw
            case rel => exact ⟨q + 1, by omega, by go_num, by rw [hd2.out], HN.out⟩
            case measure => simp [intOf]; omega
          · have hb : (xq == (n : Int)) = false := by simpa using hxe
            have hd2 : Hid (decide ((n : Int) ∈ os.take (q + 1)) = decide ((n : Int) ∈ os.take q)) := Lib.hid (by
              rw [decide_eq_decide, HTk.out]
              simp only [List.mem_append, List.mem_singleton]
              exact ⟨fun h => h.elim id fun e => absurd e.symm hxe, .inl⟩)
            have hlf : ((flt n (os.take q)).map (Value.int .i64)).length = (flt n (os.take q)).length := List.length_map _
            have HE : Hid (flt n (os.take (q + 1)) = flt n (os.take q) ++ [xq]) := Lib.hid (by rw [HFt.out]; simp [hb])
            clear hxe HFt
            generalize flt n (os.take q) = zs at *
            generalize decide ((n : Int) ∈ os.take q) = mm at *
            go_wp2_with (at_builtin; refine wpList_append1_pg rfl _ _ 36 rfl tInts (.slice nb zs.length nc) (zs.map (Value.int .i64)) (.int .i64 xq) (From w4.heap.size) ⟨wr.heap.size, 0, none⟩ 1 rfl rfl (HNx.out.alloc _) (by simp) rfl (Nat.le_refl _) rfl (by have := HFl.out; rw [List.length_map]; omega) ?_; intro g2 cap2 w5 ho5 hk5; rw [hlf] at ho5 ⊢; have HOx := Lib.hid ho5; have HKx := Lib.hid hk5; clear ho5 hk5)
            have HN : Hid (NextRel w4 n os (q + 1) (.slice (some ⟨g2, 0, none⟩) (zs.length + 1) cap2) w5) := by
              have hl : (zs ++ [xq]).length = zs.length + 1 := by simp
              refine Lib.hid ⟨some ⟨g2, 0, none⟩, cap2, by rw [HE.out, hl], ?_, ?_⟩
              · rw [HE.out, List.map_append]
                refine HOx.out.mono fun x _ hx => ?_
                rcases hx with hx | hx
                · exact HNx.out.2 x hx
                · have := HKN.out.size; simp at hx; show _ ≤ _; omega
              · exact (HKN.out.then (Kept.alloc Nob _ _)).from (n := w4.heap.size) (Nat.le_refl _) (HKx.out.mono fun x _ hx => HNx.out.2 x hx)
            go_roundw
            case rel => exact ⟨q + 1, by omega, by go_num, by rw [hd2.out], HN.out⟩
            case measure => simp [intOf]; omega
        · have hqe : q = os.length := by omega
          subst hqe
          rw [List.take_length] at HNx ⊢
          have HFb : Hid ((flt n os).length ≤ room) := Lib.hid (Nat.le_trans (List.length_filter_le _ _) HNd.out.2)
          obtain ⟨mm, hmm⟩ : ∃ mm, decide ((n : Int) ∈ os) = mm := ⟨_, rfl⟩
          rw [hmm]
          have HMm := Lib.hid hmm
          clear hmm
          go_upto_if 107 with fail
          go_cut [10] (fun s10 wx => s10 = .int .i64 ((hits + (if (n : Int) ∈ os then 1 else 0) : Nat) : Int) ∧ wx = wr)
          case first =>
            cases mm
            · go_wp2_with fail
              go_meet
              exact ⟨by rw [if_neg (of_decide_eq_false HMm.out)]; rfl, rfl⟩
            · go_wp2_with fail
              go_meet
              exact ⟨by rw [if_pos (of_decide_eq_true HMm.out)]; go_num, rfl⟩
          case rest =>
            obtain ⟨rfl, rfl⟩ := hcut
            have hhr5 : (hits + (if (n : Int) ∈ os then 1 else 0)) + (reads + (if (n : Int) ∈ os then 0 else 1)) = k + 1 := by
              have := HHr.out
              by_cases hm : (n : Int) ∈ os
              · rw [if_pos hm, if_pos hm]; omega
              · rw [if_neg hm, if_neg hm]; omega
            have HHr5 := Lib.hid hhr5
            have HAf : Hid (afterPin os n room = if room < (flt n os).length + 1 then (flt n os ++ [(n : Int)]).tail else flt n os ++ [(n : Int)]) := Lib.hid (by
              unfold afterPin
              rw [List.length_append]
              rfl)
            clear hhr5 HHr
            generalize (hits + (if (n : Int) ∈ os then 1 else 0)) = hits5 at *
            generalize (reads + (if (n : Int) ∈ os then 0 else 1)) = reads5 at *
            generalize flt n os = FL at *
            have hlf : (FL.map (Value.int .i64)).length = FL.length := List.length_map _
            go_upto_if 117 with (at_builtin; refine wpList_append1_pg rfl _ _ 36 rfl tInts (.slice nb FL.length nc) (FL.map (Value.int .i64)) (.int .i64 n) (From w4.heap.size) _ 1 rfl rfl (HNx.out.alloc _) (by simp) rfl (Nat.le_refl _) rfl (by have := HFb.out; rw [List.length_map]; omega) ?_; intro g2 cap2 w5 ho5 hk5; rw [hlf] at ho5 ⊢; have HOx := Lib.hid ho5; have HKx := Lib.hid hk5; clear ho5 hk5)
            have hkx : Kept (From w4.heap.size) w4 w5 := ((HKN.out.nob).trans' (Kept.alloc _ _ _)).trans (HKx.out) (fun x hx h => HNx.out.2 x h)
            have hg2 : g2 < w5.heap.size := HOx.out.blockLt rfl
            have hg2' : w4.heap.size ≤ g2 := by
              rcases HOx.out.2 g2 rfl with h | h
              · exact HNx.out.2 g2 h
              · have := HKN.out.size; simp at h; omega
            have HO5 := Lib.hid (HO4.out.apart hkx (Y := Just g2) (fun x hx => by rw [show x = g2 from hx]; exact ⟨hg2, .inr hg2'⟩))
            have hrd5 : Reads w5 (.slice (some ⟨g2, 0, none⟩) (FL.length + 1) cap2) ((FL ++ [(n : Int)]).map (Value.int .i64)) (Just g2) := by
              rw [List.map_append]
              exact (own_just HOx.out rfl rfl).reads
            have hcap2 : FL.length + 1 ≤ cap2 := by
              rcases HOx.out.shape with ⟨hv, _⟩ | ⟨g, cap, cur, hv, _, _, hc, _⟩
              · cases hv
              · simp only [Value.slice.injEq] at hv
                rw [List.length_append, hlf] at hc
                simp at hc
                omega
            have HRd5 := Lib.hid hrd5
            clear hrd5 hkx hg2 hg2' HO4 HNx HKN HOx HKx
            go_cut [9] (fun s9 wx => (∃ a c, s9 = .slice a (afterPin os n room).length c ∧ Reads w5 s9 ((afterPin os n room).map (Value.int .i64)) (Just g2)) ∧ wx = w5)
            case first =>
              by_cases hl : room < FL.length + 1
              · have tl : (room : Int) < (FL.length : Int) + 1 := by omega
                have tc : ¬ cap2 = 1 := by omega
                have hf1 : 0 < FL.length := by omega
                have HAe := Lib.hid (HAf.out.trans (if_pos hl))
                clear HAf hl
                go_wp2_with fail
                go_meet
                have hdr := HRd5.out.dropped 1 (by have := hf1; simp; omega)
                rw [List.drop_one, ← List.map_tail] at hdr
                exact ⟨⟨some ⟨g2, 1, none⟩, cap2 - 1, by rw [HAe.out]; simp, by rw [HAe.out]; exact hdr⟩, rfl⟩
              · have tl : ¬ (room : Int) < (FL.length : Int) + 1 := by omega
                have HAe := Lib.hid (HAf.out.trans (if_neg hl))
                clear HAf hl
                go_wp2_with fail
                go_meet
                rw [HAe.out, List.length_append]
                exact ⟨⟨_, _, rfl, HRd5.out⟩, rfl⟩
            case rest =>
              obtain ⟨⟨a5, c5, rfl, hor5⟩, rfl⟩ := hcut
              have HOr5 := Lib.hid hor5
              clear hor5 HAf HRd5
              generalize afterPin os n room = os5 at *
              have HHe := Lib.hid HO5.out.held
              have hol5 := HO5.out.nodup.2
              go_wp2_with (go_at_call 15; (with_reducible refine HHe.out.mono ?_); rintro e w6 ⟨ha, hc, hs, hperm, rfl, hown, hk6⟩; have HPm := Lib.hid hperm; have HOw := Lib.hid hown.reads; have HK6 := Lib.hid hk6; clear hperm hown hk6)
              clear HHe
              have HSl : Hid (hs.length = os5.length) := Lib.hid HPm.out.length_eq
              go_loopw [19] (fun i wx => ∃ q : Nat, q ≤ os5.length ∧ i = .int .i64 q ∧ Kept Nob w6 wx) (fun i _ => os5.length - (intOf i).toNat)
              case atStart => exact ⟨0, Nat.zero_le _, rfl, Kept.refl _ _⟩
              case round =>
                obtain ⟨q, hq, rfl, hkx⟩ := hrel
                have HKX := Lib.hid hkx
                clear hkx
                by_cases hql : q < os5.length
                · obtain ⟨gq, gr, xq, hvq, hxq, hcq, -⟩ := ((HOr5.out.kept HK6.out (fun _ _ f => f)).kept HKX.out (fun _ _ f => f)).cell (i := q) (by rw [List.length_map]; exact hql)
                  obtain rfl : xq = .int .i64 os5[q] := by
                    rw [List.getElem?_map, List.getElem?_eq_getElem hql] at hxq
                    exact (Option.some.inj hxq).symm
                  clear hxq
                  have HIn : Hid (os5[q] ∈ hs) := Lib.hid (HPm.out.mem_iff.2 (List.getElem_mem hql))
                  generalize os5[q] = kq at *
                  subst hvq
                  have HCq := Lib.hid hcq
                  clear hcq
                  go_wp2_with fail
                  go_loopw [20, 21] (fun m i wy => ∃ jj : Nat, jj ≤ os5.length ∧ i = .int .i64 jj ∧ m = .bool (decide (kq ∈ hs.take jj)) ∧ Kept Nob wr wy) (fun _ i _ => os5.length - (intOf i).toNat)
                  case atStart => exact ⟨0, Nat.zero_le _, rfl, by simp, Kept.refl _ _⟩
                  case round =>
                    obtain ⟨jj, hjj, rfl, rfl, hky⟩ := hrel
                    have HKY := Lib.hid hky
                    clear hky
                    by_cases hjl : jj < os5.length
                    · obtain ⟨gh, gs, xh, hvh, hxh, hch, -⟩ := (HOw.out.kept (HKX.out.then HKY.out) (fun _ _ f => f)).cell (i := jj) (by rw [List.length_map, HSl.out]; exact hjl)
                      have hjs : jj < hs.length := by rw [HSl.out]; exact hjl
                      obtain rfl : xh = .int .i64 hs[jj] := by
                        rw [List.getElem?_map, List.getElem?_eq_getElem hjs] at hxh
                        exact (Option.some.inj hxh).symm
                      clear hxh
                      have hcq' := (HKY.out.cell (cell_lt HCq.out) (fun f => f)).trans HCq.out
                      have HTk : Hid (hs.take (jj + 1) = hs.take jj ++ [hs[jj]]) := Lib.hid (List.take_succ_eq_append_getElem hjs)
                      generalize hs[jj] = xj at *
                      subst hvh
                      have t1 : (jj : Int) < (os5.length : Int) := by omega
                      have t2 : (q : Int) < (os5.length : Int) := by omega
                      have t3 : (0 : Int) ≤ (jj : Int) := by omega
                      have t4 : (0 : Int) ≤ (q : Int) := by omega
                      by_cases hin : kq ∈ hs.take jj
                      · have hd : decide (kq ∈ hs.take jj) = true := decide_eq_true hin
                        have hd2 : Hid (decide (kq ∈ hs.take (jj + 1)) = true) := Lib.hid (decide_eq_true (by rw [HTk.out]; exact List.mem_append_left _ hin))
                        rw [hd]
                        clear hin hd
                        go_wp2_with fail
                        go_quiet (fail)
                        go_wp2_with fail
                        have HN := Lib.hid (HKY.out.then (Kept.drewN Nob _ nq))
                        go_roundw
                        case rel => exact ⟨jj + 1, by omega, by go_num, by rw [hd2.out], HN.out⟩
                        case measure => simp [intOf]; omega
                      · have hd : decide (kq ∈ hs.take jj) = false := decide_eq_false hin
                        rw [hd]
                        by_cases hxe : xj = kq
                        · have hb : (xj == kq) = true := by simpa using hxe
                          have hd2 : Hid (decide (kq ∈ hs.take (jj + 1)) = true) := Lib.hid (decide_eq_true (by rw [HTk.out, hxe]; simp))
                          clear hin hd hxe
                          go_wp2_with fail
                          go_quiet (fail)
                          go_wp2_with fail
                          have HN := Lib.hid (HKY.out.then (Kept.drewN Nob _ nq))
                          go_roundw
                          case rel => exact ⟨jj + 1, by omega, by go_num, by rw [hd2.out], HN.out⟩
                          case measure => simp [intOf]; omega
                        · have hb : (xj == kq) = false := by simpa using hxe
                          have hd2 : Hid (decide (kq ∈ hs.take (jj + 1)) = false) := Lib.hid (decide_eq_false (by
                            rw [HTk.out]
                            simp only [List.mem_append, List.mem_singleton]
                            rintro (h | h)
                            · exact hin h
                            · exact hxe h.symm))
                          clear hin hd hxe
                          go_wp2_with fail
                          go_quiet (fail)
                          go_wp2_with fail
                          have HN := Lib.hid (HKY.out.then (Kept.drewN Nob _ nq))
                          go_roundw
                          case rel => exact ⟨jj + 1, by omega, by go_num, by rw [hd2.out], HN.out⟩
                          case measure => simp [intOf]; omega
                    · have hje : jj = os5.length := by omega
                      have hd : decide (kq ∈ hs.take jj) = true := decide_eq_true (by rw [hje, ← HSl.out, List.take_length]; exact HIn.out)
                      rw [hd]
                      clear hd
                      go_wp2_with fail
                      have HN := Lib.hid (HKX.out.then HKY.out)
                      go_roundw
                      case rel => exact ⟨q + 1, by omega, by go_num, HN.out⟩
                      case measure => simp [intOf]; omega
                · have hqe : q = os5.length := by omega
                  subst hqe
                  have HN := Lib.hid (HK6.out.then HKX.out)
                  have HOI : Hid (OldIn w bd b mb d F room (.slice a5 os5.length c5) os5 hits5 reads5 wr) := Lib.hid ⟨Just g2, HO5.out.nob HN.out, c5, a5, rfl, HOr5.out.kept HN.out (fun _ _ f => f)⟩
                  go_wp2_with fail
                  go_roundw
                  case rel => exact ⟨k + 1, hits5, reads5, os5, by omega, by go_num, rfl, HHr5.out, HOI.out⟩
                  case measure => simp [intOf]; omega
    · have hke : k = xs.length := by omega
      subst hke
      have HSt : Hid (Calls Tryz.prog 18 #[.pointer (some ⟨b, 0, none⟩)] wr fun e w' => e = .returned (.tuple #[.int .i64 hits, .int .i64 reads, .int .i64 0]) ∧ Kept Nob wr w') := by
        obtain ⟨P, S, ou, C, h1, h2, h3, h4, h5, h6, h7, r⟩ := HO.out
        refine Lib.hid ((pool_stats wr b bd mb P S C.pool).mono ?_)
        rintro e w' ⟨rfl, nn, rfl⟩
        rw [h5, h6, h7]
        exact ⟨rfl, Kept.drewN _ _ _⟩
      have HOp : Hid (∀ w', Kept Nob wr w' → Calls Tryz.prog 19 #[.pointer (some ⟨bd, 0, none⟩)] w' fun e w2 => e = .returned (.int .i64 0) ∧ w' = w2) := by
        obtain ⟨P, S, ou, C, -⟩ := HO.out
        refine Lib.hid fun w' hk => ?_
        have := disk_ops' w' bd d F (C.disk.kept hk (fun _ _ f => f))
        rw [HOps.out] at this
        exact this
      have HKO := Lib.hid HO.out.kept
      have hb60 : hits ≤ 60 := by have := HHr.out; omega
      have t1 : (xs.length : Int) - (hits : Int) = (reads : Int) := by have := HHr.out; omega
      clear HO HOr
      go_wp2_with (first
        | (go_at_call 18; (with_reducible refine HSt.out.mono ?_); rintro e w3 ⟨rfl, hk3⟩; have HK3 := Lib.hid hk3; clear hk3)
        | (go_at_call 19; (with_reducible refine (HOp.out _ HK3.out).mono ?_); rintro e w' ⟨rfl, rfl⟩)
        | (go_at_call 9; (with_reducible refine (awake12 _ (HT.out.kept (HKO.out.then HK3.out) (fun f => f))).mono ?_); rintro e w6 ⟨rfl, hk6⟩))
      go_ret
      exact ⟨rfl, (HKO.out.then HK3.out).then hk6⟩

set_option maxRecDepth 100000 in
theorem old_any (w : World) (v : Value) (xs : List Int) (G : Nat → Prop) (hl : Reads w v (xs.map (Value.int .i64)) G) (room : Int) (hT : Typed w) :
    Calls Tryz.prog 4 #[v, .int .i64 room] w (RetTrue w) := by
  by_cases g0 : 60 < xs.length
  · obtain ⟨va, vc, rfl, -⟩ := hl.shape
    rw [List.length_map]
    clear hl
    go_enter Tryz.func4, Tryz.ntmps4
    go_wp2_with (go_at_call 9; refine (awake12 _ hT).mono ?_; rintro e w' ⟨rfl, hk⟩)
    go_ret
    exact ⟨rfl, hk⟩
  by_cases g1 : room < 1
  · obtain ⟨va, vc, rfl, -⟩ := hl.shape
    rw [List.length_map]
    clear hl
    go_enter Tryz.func4, Tryz.ntmps4
    go_wp2_with (go_at_call 9; refine (awake12 _ hT).mono ?_; rintro e w' ⟨rfl, hk⟩)
    go_ret
    exact ⟨rfl, hk⟩
  by_cases g2 : 6 < room
  · obtain ⟨va, vc, rfl, -⟩ := hl.shape
    rw [List.length_map]
    clear hl
    go_enter Tryz.func4, Tryz.ntmps4
    go_wp2_with (go_at_call 9; refine (awake12 _ hT).mono ?_; rintro e w' ⟨rfl, hk⟩)
    go_ret
    exact ⟨rfl, hk⟩
  obtain ⟨room, rfl⟩ : ∃ a : Nat, room = a := ⟨room.toNat, by omega⟩
  exact old_main w v xs G hl (by omega) room (by omega) (by omega) hT
end Go.Proofs.YthppgchmamonnaaGreatDoor
