/- The document's own page: Bytes. -/
import Derived.Test.YthppgchmamonnaaGreatDoorPq28
namespace Go.Proofs.YthppgchmamonnaaGreatDoor
open Go.RowKit
theorem layB_nil (ys : List Int) (o : Nat) : layB ys o [] = ys := by simp [layB]
theorem layB_cons (ys : List Int) (o : Nat) (x : Int) (r : List Int) (h : o < ys.length) : layB ys o (x :: r) = layB (ys.set o x) (o + 1) r := by
  unfold layB
  have h1 : (ys.set o x).take (o + 1) = ys.take o ++ [x] := by
    rw [List.take_succ_eq_append_getElem (by rw [List.length_set]; exact h), List.getElem_set_self, List.take_set_of_le (Nat.le_refl _)]
  have h2 : (ys.set o x).drop (o + 1 + r.length) = ys.drop (o + (x :: r).length) := by
    rw [List.drop_set_of_lt (by omega), List.length_cons]
    congr 1; omega
  rw [h1, h2]
  simp
theorem le_two (v : Int) : le v 2 = [v % 256, v / 256 % 256] := by simp [le, List.range_succ]
theorem le_four (v : Int) : le v 4 = [v % 256, v / 256 % 256, v / 65536 % 256, v / 65536 / 256 % 256] := by
  simp [le, List.range_succ]
  omega
theorem layB_le2 (ys : List Int) (o : Nat) (v : Int) (h : o + 2 ≤ ys.length) : layB ys o (le v 2) = put2 ys o v := by
  rw [le_two, layB_cons _ _ _ _ (by omega), layB_cons _ _ _ _ (by rw [List.length_set]; omega), layB_nil]; rfl
theorem layB_le4 (ys : List Int) (o : Nat) (v : Int) (h : o + 4 ≤ ys.length) : layB ys o (le v 4) = put4 ys o v := by
  rw [le_four, layB_cons _ _ _ _ (by omega), layB_cons _ _ _ _ (by rw [List.length_set]; omega), layB_cons _ _ _ _ (by simp only [List.length_set]; omega), layB_cons _ _ _ _ (by simp only [List.length_set]; omega), layB_nil]; rfl
theorem BytesAt.laid {w : World} {g n cap o dl : Nat} {ys bs : List Int} {F : Nat → Prop} (h : Own w 5 (.slice (some ⟨g, 0, none⟩) n cap) (Proofs.YthppgchmamonnaaGreatDoor.laid (ys.map (Value.int .u8)) o dl (bs.map (Value.int .u8))) F) (hl : bs.length ≤ dl) : BytesAt w g n cap (layB ys o bs) F := by
  rw [laid_bytes ys bs o dl hl] at h
  exact h
theorem u8_one (l : List Int) : ∀ u ∈ l.map (Value.int .u8), u.oneCell' = true := fun u hu => by obtain ⟨y, _, rfl⟩ := List.mem_map.1 hu; rfl
def PutTo (W : World) (v : Int) (n : Nat) (e : Ending) (w' : World) : Prop := ∃ b c, e = .returned (.slice b n c) ∧ Reads w' (.slice b n c) ((le v n).map (Value.int .u8)) (From W.heap.size) ∧ Kept Nob W w'
theorem put_to (w : World) (v : Int) (h0 : 0 ≤ v) (h1 : v < 4294967296) (n : Nat) (hn : n ≤ 4) : Calls Tryz.prog 95 #[.int .u64 v, .int .i64 n] w (PutTo w v n) :=
  (doc_put w v h0 h1 n hn).mono fun _ _ ⟨b, c, h1, h2, h3⟩ => ⟨b, c, h1, h2.reads, h3⟩
set_option maxRecDepth 100000 in
set_option maxHeartbeats 4000000 in
theorem dpage_bytes (w : World) (pg : Nat) (p : PgM) (R : Nat → Prop) (h : DPgAt w pg p R) (hz : Sized p.ss) (hu : usedOf p.ss ≤ 512) (hid : 0 ≤ p.id ∧ p.id < 4294967296) :
    Calls Tryz.prog 52 #[.pointer (some ⟨pg, 0, none⟩)] w fun e w' => ∃ g, e = .returned (.slice (some ⟨g, 0, none⟩) 512 512) ∧ BytesAt w' g 512 512 (bytesOf p) (From w.heap.size) ∧ Kept Nob w w' := by
  obtain ⟨bv, hv, hb0, hr0, hh0, hn0⟩ := h
  obtain ⟨ha, hc, rfl, -⟩ := hh0.reads.shape
  obtain ⟨ba, bc, vs, rfl, hv1, hrw⟩ := hr0.shape
  rw [dHas_length] at hb0 hh0
  rw [dRows_length] at hb0 hr0 hv1
  have hpl : pg < w.heap.size := (Array.getElem?_eq_some_iff.1 hb0).1
  have H1 := Lib.hid hb0
  have HO := Lib.hid hh0.reads
  have HV := Lib.hid hv1.reads
  have HW := Lib.hid hrw
  have HId := Lib.hid hid
  have hl60 := hz.1
  clear hb0 hh0 hr0 hv1 hrw hz hid hn0
  go_enter Tryz.func52, Tryz.ntmps52
  go_upto_region 2 with (at_make; go_must (refine wpList_make_pg rfl _ _ 50 rfl tBytes rfl 512 .i64 .i64 rfl rfl (by omega) ?_); intro w1 ho1 hk1; have hb1 := (hk1.block pg hpl (fun f => f)).trans H1.out; have c0 : w1.cell? ⟨pg, 0, none⟩ = some (.int .i64 p.kind) := cell_at hb1 0 _ rfl; have c3 : w1.cell? ⟨pg, 3, none⟩ = some (.slice ha p.ss.length hc) := cell_at hb1 3 _ rfl; have HB1 := Lib.hid hb1; have HO1 := Lib.hid ho1; have HK1 := Lib.hid hk1; clear ho1 hk1 hb1)
  obtain ⟨g, hg⟩ : ∃ g, w.heap.size = g := ⟨_, rfl⟩
  have HGe := Lib.hid hg
  rw [hg] at HO1 ⊢
  have hne : pg ≠ g := by omega
  have HO1' : Hid (BytesAt w1 g 512 512 (List.replicate 512 0) (Just g)) := Lib.hid (by
    have := HO1.out
    rw [show List.replicate 512 (Value.int .u8 0) = (List.replicate 512 (0 : Int)).map (Value.int .u8) from by rw [List.map_replicate]] at this
    exact ⟨this.1, fun j hj => by simp [Value.ownBlock] at hj; exact hj.symm⟩)
  have x0 : w1.cell? ⟨g, 0, none⟩ = some (.int .u8 0) := HO1'.out.cell 0 _ rfl
  have f0 := HO1'.out.frozen 0
  have c3' : ∀ v, (w1.setCell ⟨g, 0, none⟩ v).cell? ⟨pg, 3, none⟩ = some (.slice ha p.ss.length hc) := fun v => (setCell_far hne).trans c3
  have x1 : ∀ v, (w1.setCell ⟨g, 0, none⟩ v).cell? ⟨g, 1, none⟩ = some (.int .u8 0) := fun v => (HO1'.out.set 0 v).cell 1 _ rfl
  have f1 : ∀ v, (w1.setCell ⟨g, 0, none⟩ v).frozen? ⟨g, 1, none⟩ = false := fun v => (HO1'.out.set 0 v).frozen 1
  clear HO1 hg
  go_upto_region 4 with fail
  obtain ⟨ys0, hys0⟩ : ∃ ys0 : List Int, ys0 = ((List.replicate 512 (0 : Int)).set 0 (p.kind % 256)).set 1 (p.ss.length : Int) := ⟨_, rfl⟩
  have HYs : Hid (ys0.length = 512 ∧ put4 ys0 2 p.id = headRow p) := Lib.hid ⟨by rw [hys0, List.length_set, List.length_set, List.length_replicate], by
    rw [hys0, headRow, show (p.ss.length : Int) % 256 = (p.ss.length : Int) from by omega]⟩
  have HO2 : Hid (BytesAt ((w1.setCell ⟨g, 0, none⟩ (.int .u8 (p.kind % 256))).setCell ⟨g, 1, none⟩ (.int .u8 p.ss.length)) g 512 512 ys0 (Just g)) := Lib.hid (by
    have := (HO1'.out.set 0 (.int .u8 (p.kind % 256))).set 1 (.int .u8 p.ss.length)
    unfold BytesAt
    rw [hys0, List.map_set, List.map_set]
    exact this)
  have HK2 := Lib.hid ((HK1.out.nob (G := Just g)).trans' (kept2 w1 g 0 1 (.int .u8 (p.kind % 256)) (.int .u8 p.ss.length)))
  clear c3' x1 f1 x0 f0 c0 c3 HB1 HO1' HK1 hys0
  generalize (w1.setCell ⟨g, 0, none⟩ (.int .u8 (p.kind % 256))).setCell ⟨g, 1, none⟩ (.int .u8 p.ss.length) = w2 at *
  have hb2 : w2.heap[pg]? = _ := (HK2.out.block pg hpl (fun e => hne e)).trans H1.out
  have c1 : w2.cell? ⟨pg, 1, none⟩ = some (.int .i64 p.id) := cell_at hb2 1 _ rfl
  have hpl2 : pg < w2.heap.size := (Array.getElem?_eq_some_iff.1 hb2).1
  have HC1 := Lib.hid c1
  have HP4 : Hid (∀ W, Kept Nob w2 W → Calls Tryz.prog 95 #[.int .u64 p.id, .int .i64 4] W (PutTo W p.id 4)) := Lib.hid fun W _ => put_to W p.id HId.out.1 HId.out.2 4 (by omega)
  have hw : IntKind.u64.wrap p.id = p.id := by
    have h := HId.out
    show p.id % 18446744073709551616 = p.id
    omega
  clear hb2
  go_region_held3 (fun w' => w'.cell? ⟨pg, 1, none⟩ = some (.int .i64 p.id)) (first | (go_keep; done) | assumption)
    ((first
      | (go_at_call 95; (with_reducible refine (HP4.out _ (Kept.drew Nob _)).mono ?_); rintro e w3 ⟨pb, pc, rfl, hr3, hk3⟩; have HR3 := Lib.hid hr3; have HK3 := Lib.hid ((Kept.drew Nob _).trans' hk3); have HO3 := Lib.hid (HO2.out.kept HK3.out (fun _ _ f => f)); have c13 : w3.cell? ⟨pg, 1, none⟩ = some (.int .i64 p.id) := (HK3.out.cell (p := ⟨pg, 1, none⟩) hpl2 (fun f => f)).trans HC1.out; clear hr3 hk3)
      | (refine step_copy_pg rfl _ _ 50 50 rfl tBytes (.slice pb 4 pc) (ys0.map (Value.int .u8)) ((le p.id 4).map (Value.int .u8)) (Just g) _ g 512 512 2 510 510 rfl rfl HO3.out HR3.out (by rw [List.length_map, HYs.out.1]; omega) (u8_one _) ?_; intro w4 ho4 hk4; have HO4 := Lib.hid (BytesAt.laid ho4 (by rw [le_len]; omega)); have HK4 := Lib.hid (HK2.out.trans' ((HK3.out.nob (G := Just g)).trans' hk4)); have c14 : w4.cell? ⟨pg, 1, none⟩ = some (.int .i64 p.id) := (hk4.cell (p := ⟨pg, 1, none⟩) (cell_lt c13) hne).trans c13; clear ho4 hk4; generalize goInt (List.take 510 ((le p.id 4).map (Value.int .u8))).length = cv)))
  have hk4 : Kept Nob w w4 := HK4.out.mono fun x hx e => by have e : x = g := e; have := HGe.out; omega
  have HR0 : Hid (BytesAt w4 g 512 512 (bytesUpTo p 0).1 (Just g) ∧ Kept Nob w w4) := Lib.hid ⟨by
    have := HO4.out
    rw [layB_le4 _ _ _ (by rw [HYs.out.1]; omega), HYs.out.2] at this
    exact this, hk4⟩
  have HLen := Lib.hid (bytesUpTo_length p hu)
  have HEnd := Lib.hid (bytesUpTo_end p)
  clear hk4 c14 HO4 HK4 HP4 HYs hw HO2 HK2 HC1 c1 HR3 HK3 HO3 c13 hpl2
  go_wp2_with fail
  go_loopw [4, 5] (fun en i wr => ∃ j : Nat, j ≤ p.ss.length ∧ i = .int .i64 j ∧ en = .int .i64 ((bytesUpTo p j).2 : Nat) ∧ BytesAt wr g 512 512 (bytesUpTo p j).1 (Just g) ∧ Kept Nob w wr) (fun _ i _ => p.ss.length - (intOf i).toNat)
  case atStart => exact ⟨0, Nat.zero_le _, rfl, rfl, HR0.out.1, HR0.out.2⟩
  case round =>
    clear HR0
    obtain ⟨j, hj, rfl, rfl, hbr, hkr⟩ := hrel
    have HBr := Lib.hid hbr
    have HKr := Lib.hid hkr
    have hgl : g < wr.heap.size := hbr.blockLt rfl
    have hlenj := HLen.out j hj
    have hendj := HEnd.out j hj
    have hbw := (hkr.block pg hpl (fun f => f)).trans H1.out
    have c3 : wr.cell? ⟨pg, 3, none⟩ = some (.slice ha p.ss.length hc) := cell_at hbw 3 _ rfl
    have c2 : wr.cell? ⟨pg, 2, none⟩ = some (.slice ba p.ss.length bc) := cell_at hbw 2 _ rfl
    have hplr : pg < wr.heap.size := (Array.getElem?_eq_some_iff.1 hbw).1
    clear hbr hkr hbw
    by_cases hlt : j < p.ss.length
    · obtain ⟨hb, ho, y, rfl, hy, hcH, -⟩ := (HO.out.kept HKr.out (fun _ _ f => f)).cell (i := j) (by rw [dHas_length]; exact hlt)
      obtain rfl : y = .bool p.ss[j].isSome := by
        simp only [dHas, List.getElem?_map, List.getElem?_eq_getElem hlt, Option.map_some, Option.some.injEq] at hy
        exact hy.symm
      have hjv : j < vs.length := by rw [HW.out.len, dRows_length]; exact hlt
      obtain ⟨gb, go, u, rfl, hu1, hcB, -⟩ := (HV.out.kept HKr.out (fun _ _ f => f)).cell (i := j) hjv
      have hrow := (HW.out.own j _ _ hu1 (List.getElem?_eq_getElem (by rw [dRows_length]; exact hlt))).reads
      rw [dRow_at hlt] at hrow
      have hgd : p.ss.getD j none = p.ss[j] := by rw [List.getD_eq_getElem?_getD, List.getElem?_eq_getElem hlt]; rfl
      have hst : Hid (bytesUpTo p (j + 1) = byteStep j p.ss[j] (bytesUpTo p j)) := Lib.hid (by rw [bytesUpTo, hgd])
      have hend1 := HEnd.out (j + 1) hlt
      have hsum1 := sum_take p.ss j hlt
      have hmost : ((p.ss.take (j + 1)).map slotLen).sum + 16 + 4 * p.ss.length ≤ 512 := by
        have h3 : ((p.ss.take (j + 1)).map slotLen).sum ≤ (p.ss.map slotLen).sum := by
          conv => rhs; rw [← List.take_append_drop (j + 1) p.ss, List.map_append, List.sum_append]
          omega
        unfold usedOf at hu
        omega
      have HSum := Lib.hid (⟨hend1, hsum1, hmost⟩ : _ ∧ _ ∧ _)
      have HEj := Lib.hid hendj
      clear hgd hend1 hsum1 hmost hendj hy hu1
      generalize hbu : bytesUpTo p j = bu at *
      obtain ⟨ys, en⟩ := bu
      simp only at HBr hlenj HEj
      have HBu := Lib.hid hbu
      clear hbu
      cases hs : p.ss[j] with
      | none =>
        rw [hs] at hcH hst
        have HN : Hid (bytesUpTo p (j + 1) = (ys, en)) := Lib.hid (by rw [hst.out]; rfl)
        simp only [Option.isSome] at hcH
        clear hs hst hrow
        go_wp2_with fail
        go_roundw
        case rel => exact ⟨j + 1, by omega, by go_num, by rw [HN.out], by rw [HN.out]; exact HBr.out, HKr.out⟩
        case measure => simp [intOf]; omega
      | some b =>
        rw [hs] at hrow hcH hst HSum
        obtain ⟨ua, uc, rfl, -⟩ := hrow.shape
        simp only [slotLen, Option.getD_some, List.length_map] at HSum hcB hrow
        simp only [Option.isSome] at hcH
        obtain ⟨e2, he2⟩ : ∃ e2, en = e2 + b.length := ⟨en - b.length, by have h1 := HEj.out; have h2 := HSum.out; have h3 := h2.2.1; have h4 := h2.2.2; omega⟩
        have hlo : 16 + 4 * p.ss.length ≤ e2 ∧ e2 + b.length ≤ 512 := by have h1 := HEj.out; have h2 := HSum.out; have h3 := h2.2.1; have h4 := h2.2.2; omega
        subst he2
        have hsub : ((e2 + b.length : Nat) : Int) - (b.length : Int) = (e2 : Int) := by omega
        have HN : Hid (bytesUpTo p (j + 1) = (put2 (put2 (layB ys e2 b) (16 + 4 * j) (e2 : Int)) (18 + 4 * j) ((b.length : Int) + 1), e2)) := Lib.hid (by
          rw [hst.out]
          simp only [byteStep, Nat.add_sub_cancel])
        have HRu := Lib.hid ((hrow.mono (G := fun x => x < w.heap.size) fun k hk _ => hk).kept HKr.out (fun _ _ f => f))
        have hlay : (layB ys e2 b).length = 512 := by rw [layB_length (by omega), hlenj]
        clear hrow hs hst HSum HEj
        have hgbg : gb ≠ g := by have := cell_lt hcB; have h := (cell_lt hcB : gb < wr.heap.size); have hv := HV.out; rcases hv with ⟨hx, _⟩ | ⟨_, _, _, hx, _, hlt', _⟩
                                 · rw [hx] at hjv; simp at hjv
                                 · simp only [Value.slice.injEq, Option.some.injEq, Addr.mk.injEq] at hx; have := hx.1.1; have := HGe.out; omega
        have hcap : ¬ (512 : Nat) = 16 + 4 * j := by omega
        have hcap' : ¬ (512 : Nat) = 18 + 4 * j := by omega
        have hle16 : (16 : Int) + 4 * (j : Int) ≤ 512 := by omega
        have hle18 : (18 : Int) + 4 * (j : Int) ≤ 512 := by omega
        have hp16 : (0 : Int) ≤ (16 : Int) + 4 * (j : Int) := by omega
        have hp18 : (0 : Int) ≤ (18 : Int) + 4 * (j : Int) := by omega
        have hw4 : IntKind.i64.wrap (4 * (j : Int)) = 4 * (j : Int) := IntWalk.i64_in _ ⟨by omega, by omega⟩
        have hw16 : IntKind.i64.wrap (16 + 4 * (j : Int)) = 16 + 4 * (j : Int) := IntWalk.i64_in _ ⟨by omega, by omega⟩
        have hw18 : IntKind.i64.wrap (18 + 4 * (j : Int)) = 18 + 4 * (j : Int) := IntWalk.i64_in _ ⟨by omega, by omega⟩
        have hwb : IntKind.i64.wrap ((b.length : Int) + 1) = (b.length : Int) + 1 := IntWalk.i64_in _ ⟨by omega, by omega⟩
        have hwu : IntKind.u64.wrap (e2 : Int) = (e2 : Int) := by show (e2 : Int) % 18446744073709551616 = _; omega
        have hwv : IntKind.u64.wrap ((b.length : Int) + 1) = (b.length : Int) + 1 := by show ((b.length : Int) + 1) % 18446744073709551616 = _; omega
        have hn16 : ((16 : Int) + 4 * (j : Int)).toNat = 16 + 4 * j := by omega
        have hn18 : ((18 : Int) + 4 * (j : Int)).toNat = 18 + 4 * j := by omega
        go_upto_region 11 with fail
        clear hcH c3 hsub
        by_cases h512 : e2 = 512
        · have hb0 : b = [] := List.eq_nil_of_length_eq_zero (by omega)
          subst hb0 h512
          have hwu5 : IntKind.u64.wrap (512 : Int) = 512 := by decide
          have hwu1 : IntKind.u64.wrap (1 : Int) = 1 := by decide
          have hwi1 : IntKind.i64.wrap (1 : Int) = 1 := by decide
          go_region_held3 (fun w' => w'.cell? ⟨pg, 2, none⟩ = some (.slice (some ⟨gb, go, none⟩) p.ss.length bc) ∧ w'.cell? ⟨gb, go + j, none⟩ = some (.slice ua 0 uc)) (first | (go_keep; done) | assumption | (exact ⟨by assumption, by assumption⟩))
            ((refine step_copy_pg rfl _ _ 50 50 rfl tBytes (.slice ua 0 uc) (ys.map (Value.int .u8)) (([] : List Int).map (Value.int .u8)) (Just g) (fun x => x < w.heap.size) g 512 512 0 0 0 rfl rfl (Own.kept HBr.out (Kept.drew Nob _) (fun _ _ f => f)) (HRu.out.kept (Kept.drew Nob _) (fun _ _ f => f)) (by rw [List.length_map]; omega) (u8_one _) ?_; intro w4 ho4 hk4; have q1 : w4.cell? ⟨pg, 2, none⟩ = some (.slice (some ⟨gb, go, none⟩) p.ss.length bc) := (hk4.cell (p := ⟨pg, 2, none⟩) hplr hne).trans c2; have q2 : w4.cell? ⟨gb, go + j, none⟩ = some (.slice ua 0 uc) := (hk4.cell (p := ⟨gb, go + j, none⟩) (cell_lt hcB) hgbg).trans hcB; have HO4 := Lib.hid ho4; have HK4 := Lib.hid ((Kept.drew (Just g) wr).trans' hk4); clear ho4 hk4))
          have HB4 : Hid (BytesAt w4 g 512 512 (layB ys 512 []) (Just g)) := Lib.hid (by have := HO4.out; rw [show laid (ys.map (Value.int .u8)) 0 0 (([] : List Int).map (Value.int .u8)) = (layB ys 512 []).map (Value.int .u8) from by simp [laid, layB]] at this; exact this)
          have HP12 : Hid (∀ W, Kept Nob w4 W → Calls Tryz.prog 95 #[.int .u64 (512 : Int), .int .i64 2] W (PutTo W (512 : Int) 2)) := Lib.hid fun W _ => put_to W _ (by omega) (by omega) 2 (by omega)
          clear HO4
          generalize layB ys 512 [] = y1 at *
          go_wp2_with fail
          go_region_held3 (fun w' => True) (trivial)
            ((first
              | (go_at_call 95; (with_reducible refine (HP12.out _ (Kept.drew Nob _)).mono ?_); rintro e w5 ⟨pb, pc, rfl, hr5, hk5⟩; have HR5 := Lib.hid hr5; have HK5 := Lib.hid ((Kept.drew Nob _).trans' hk5); have HO5 := Lib.hid (Own.kept HB4.out HK5.out (fun _ _ f => f)); clear hr5 hk5)
              | (refine step_copy_pg rfl _ _ 50 50 rfl tBytes (.slice pb 2 pc) (y1.map (Value.int .u8)) ((le (512 : Int) 2).map (Value.int .u8)) (Just g) _ g 512 512 (16 + 4 * j) (512 - (16 + 4 * j)) (512 - (16 + 4 * j)) rfl rfl HO5.out HR5.out (by rw [List.length_map, hlay]; omega) (u8_one _) ?_; intro w6 ho6 hk6; have HO6 := Lib.hid (BytesAt.laid ho6 (by rw [le_len]; omega)); have HK6 := Lib.hid (HK4.out.trans' ((HK5.out.nob (G := Just g)).trans' hk6)); clear ho6 hk6)))
          have HB6 : Hid (BytesAt w6 g 512 512 (put2 y1 (16 + 4 * j) (512 : Int)) (Just g)) := Lib.hid (by rw [← layB_le2 _ _ _ (by rw [hlay]; omega)]; exact HO6.out)
          have hlay2 : (put2 y1 (16 + 4 * j) (512 : Int)).length = 512 := by rw [put2_length]; exact hlay
          have q16 : w6.cell? ⟨pg, 2, none⟩ = some (.slice (some ⟨gb, go, none⟩) p.ss.length bc) := (HK6.out.cell (p := ⟨pg, 2, none⟩) hplr hne).trans c2
          have q26 : w6.cell? ⟨gb, go + j, none⟩ = some (.slice ua 0 uc) := (HK6.out.cell (p := ⟨gb, go + j, none⟩) (cell_lt hcB) hgbg).trans hcB
          have Q6 := Lib.hid (And.intro q16 q26)
          have hpl6 : pg < w6.heap.size := cell_lt q16
          have hgb6 : gb < w6.heap.size := cell_lt q26
          have HP13 : Hid (∀ W, Kept Nob w6 W → Calls Tryz.prog 95 #[.int .u64 (1 : Int), .int .i64 2] W (PutTo W (1 : Int) 2)) := Lib.hid fun W _ => put_to W _ (by omega) (by omega) 2 (by omega)
          clear HO6 HP12 q1 q2 HR5 HK5 HO5 HB4 HK4 hlay
          generalize put2 y1 (16 + 4 * j) (512 : Int) = y2 at *
          go_wp2_with fail
          go_region_held3 (fun w' => w'.cell? ⟨pg, 2, none⟩ = some (.slice (some ⟨gb, go, none⟩) p.ss.length bc) ∧ w'.cell? ⟨gb, go + j, none⟩ = some (.slice ua 0 uc)) (first | (go_keep; done) | assumption | (exact ⟨by assumption, by assumption⟩))
            ((first
              | (go_at_call 95; (with_reducible refine (HP13.out _ (Kept.drew Nob _)).mono ?_); rintro e w7 ⟨pb, pc, rfl, hr7, hk7⟩; have HR7 := Lib.hid hr7; have HK7 := Lib.hid ((Kept.drew Nob _).trans' hk7); have HO7 := Lib.hid (Own.kept HB6.out HK7.out (fun _ _ f => f)); have q17 : w7.cell? ⟨pg, 2, none⟩ = some (.slice (some ⟨gb, go, none⟩) p.ss.length bc) := (HK7.out.cell (p := ⟨pg, 2, none⟩) hpl6 (fun f => f)).trans Q6.out.1; have q27 : w7.cell? ⟨gb, go + j, none⟩ = some (.slice ua 0 uc) := (HK7.out.cell (p := ⟨gb, go + j, none⟩) hgb6 (fun f => f)).trans Q6.out.2; clear hr7 hk7)
              | (refine step_copy_pg rfl _ _ 50 50 rfl tBytes (.slice pb 2 pc) (y2.map (Value.int .u8)) ((le (1 : Int) 2).map (Value.int .u8)) (Just g) _ g 512 512 (18 + 4 * j) (512 - (18 + 4 * j)) (512 - (18 + 4 * j)) rfl rfl HO7.out HR7.out (by rw [List.length_map, hlay2]; omega) (u8_one _) ?_; intro w8 ho8 hk8; have HO8 := Lib.hid (BytesAt.laid ho8 (by rw [le_len]; omega)); have HK8 := Lib.hid (HK6.out.trans' ((HK7.out.nob (G := Just g)).trans' hk8)); have q18 : w8.cell? ⟨pg, 2, none⟩ = some (.slice (some ⟨gb, go, none⟩) p.ss.length bc) := (hk8.cell (p := ⟨pg, 2, none⟩) (cell_lt q17) hne).trans q17; have q28 : w8.cell? ⟨gb, go + j, none⟩ = some (.slice ua 0 uc) := (hk8.cell (p := ⟨gb, go + j, none⟩) (cell_lt q27) hgbg).trans q27; clear ho8 hk8)))
          have HB8 : Hid (BytesAt w8 g 512 512 (put2 y2 (18 + 4 * j) (1 : Int)) (Just g)) := Lib.hid (by rw [← layB_le2 _ _ _ (by rw [hlay2]; omega)]; exact HO8.out)
          have HKw : Hid (Kept Nob w w8) := Lib.hid (HKr.out.trans HK8.out fun x hx e => by have e : x = g := e; have := HGe.out; omega)
          clear HP13 HR7 HK7 HO7 HB6 HK6 q17 q27 q16 q26 q18 q28 HO8 HK8 Q6
          go_wp2_with fail
          go_roundw
          case rel => exact ⟨j + 1, by omega, by go_num, by rw [HN.out]; rfl, by rw [HN.out]; exact HB8.out, HKw.out⟩
          case measure => simp [intOf]; omega
        · have hcap2 : ¬ 512 = e2 := fun e => h512 e.symm
          have hle2 : (e2 : Int) ≤ 512 := by omega
          go_region_held3 (fun w' => w'.cell? ⟨pg, 2, none⟩ = some (.slice (some ⟨gb, go, none⟩) p.ss.length bc) ∧ w'.cell? ⟨gb, go + j, none⟩ = some (.slice ua b.length uc)) (first | (go_keep; done) | assumption | (exact ⟨by assumption, by assumption⟩))
            ((refine step_copy_pg rfl _ _ 50 50 rfl tBytes (.slice ua b.length uc) (ys.map (Value.int .u8)) (b.map (Value.int .u8)) (Just g) (fun x => x < w.heap.size) g 512 512 e2 (512 - e2) (512 - e2) rfl rfl (Own.kept HBr.out (Kept.drew Nob _) (fun _ _ f => f)) (HRu.out.kept (Kept.drew Nob _) (fun _ _ f => f)) (by rw [List.length_map]; omega) (u8_one _) ?_; intro w4 ho4 hk4; have q1 : w4.cell? ⟨pg, 2, none⟩ = some (.slice (some ⟨gb, go, none⟩) p.ss.length bc) := (hk4.cell (p := ⟨pg, 2, none⟩) hplr hne).trans c2; have q2 : w4.cell? ⟨gb, go + j, none⟩ = some (.slice ua b.length uc) := (hk4.cell (p := ⟨gb, go + j, none⟩) (cell_lt hcB) hgbg).trans hcB; have HO4 := Lib.hid ho4; have HK4 := Lib.hid ((Kept.drew (Just g) wr).trans' hk4); clear ho4 hk4))
          have HB4 : Hid (BytesAt w4 g 512 512 (layB ys e2 b) (Just g)) := Lib.hid (BytesAt.laid HO4.out (by omega))
          have HP12 : Hid (∀ W, Kept Nob w4 W → Calls Tryz.prog 95 #[.int .u64 (e2 : Int), .int .i64 2] W (PutTo W (e2 : Int) 2)) := Lib.hid fun W _ => put_to W _ (by omega) (by omega) 2 (by omega)
          clear HO4
          generalize layB ys e2 b = y1 at *
          go_wp2_with fail
          go_region_held3 (fun w' => True) (trivial)
            ((first
              | (go_at_call 95; (with_reducible refine (HP12.out _ (Kept.drew Nob _)).mono ?_); rintro e w5 ⟨pb, pc, rfl, hr5, hk5⟩; have HR5 := Lib.hid hr5; have HK5 := Lib.hid ((Kept.drew Nob _).trans' hk5); have HO5 := Lib.hid (Own.kept HB4.out HK5.out (fun _ _ f => f)); clear hr5 hk5)
              | (refine step_copy_pg rfl _ _ 50 50 rfl tBytes (.slice pb 2 pc) (y1.map (Value.int .u8)) ((le (e2 : Int) 2).map (Value.int .u8)) (Just g) _ g 512 512 (16 + 4 * j) (512 - (16 + 4 * j)) (512 - (16 + 4 * j)) rfl rfl HO5.out HR5.out (by rw [List.length_map, hlay]; omega) (u8_one _) ?_; intro w6 ho6 hk6; have HO6 := Lib.hid (BytesAt.laid ho6 (by rw [le_len]; omega)); have HK6 := Lib.hid (HK4.out.trans' ((HK5.out.nob (G := Just g)).trans' hk6)); clear ho6 hk6)))
          have HB6 : Hid (BytesAt w6 g 512 512 (put2 y1 (16 + 4 * j) (e2 : Int)) (Just g)) := Lib.hid (by rw [← layB_le2 _ _ _ (by rw [hlay]; omega)]; exact HO6.out)
          have hlay2 : (put2 y1 (16 + 4 * j) (e2 : Int)).length = 512 := by rw [put2_length]; exact hlay
          have q16 : w6.cell? ⟨pg, 2, none⟩ = some (.slice (some ⟨gb, go, none⟩) p.ss.length bc) := (HK6.out.cell (p := ⟨pg, 2, none⟩) hplr hne).trans c2
          have q26 : w6.cell? ⟨gb, go + j, none⟩ = some (.slice ua b.length uc) := (HK6.out.cell (p := ⟨gb, go + j, none⟩) (cell_lt hcB) hgbg).trans hcB
          have Q6 := Lib.hid (And.intro q16 q26)
          have hpl6 : pg < w6.heap.size := cell_lt q16
          have hgb6 : gb < w6.heap.size := cell_lt q26
          have HP13 : Hid (∀ W, Kept Nob w6 W → Calls Tryz.prog 95 #[.int .u64 ((b.length : Int) + 1), .int .i64 2] W (PutTo W ((b.length : Int) + 1) 2)) := Lib.hid fun W _ => put_to W _ (by omega) (by omega) 2 (by omega)
          clear HO6 HP12 q1 q2 HR5 HK5 HO5 HB4 HK4 hlay
          generalize put2 y1 (16 + 4 * j) (e2 : Int) = y2 at *
          go_wp2_with fail
          go_region_held3 (fun w' => w'.cell? ⟨pg, 2, none⟩ = some (.slice (some ⟨gb, go, none⟩) p.ss.length bc) ∧ w'.cell? ⟨gb, go + j, none⟩ = some (.slice ua b.length uc)) (first | (go_keep; done) | assumption | (exact ⟨by assumption, by assumption⟩))
            ((first
              | (go_at_call 95; (with_reducible refine (HP13.out _ (Kept.drew Nob _)).mono ?_); rintro e w7 ⟨pb, pc, rfl, hr7, hk7⟩; have HR7 := Lib.hid hr7; have HK7 := Lib.hid ((Kept.drew Nob _).trans' hk7); have HO7 := Lib.hid (Own.kept HB6.out HK7.out (fun _ _ f => f)); have q17 : w7.cell? ⟨pg, 2, none⟩ = some (.slice (some ⟨gb, go, none⟩) p.ss.length bc) := (HK7.out.cell (p := ⟨pg, 2, none⟩) hpl6 (fun f => f)).trans Q6.out.1; have q27 : w7.cell? ⟨gb, go + j, none⟩ = some (.slice ua b.length uc) := (HK7.out.cell (p := ⟨gb, go + j, none⟩) hgb6 (fun f => f)).trans Q6.out.2; clear hr7 hk7)
              | (refine step_copy_pg rfl _ _ 50 50 rfl tBytes (.slice pb 2 pc) (y2.map (Value.int .u8)) ((le ((b.length : Int) + 1) 2).map (Value.int .u8)) (Just g) _ g 512 512 (18 + 4 * j) (512 - (18 + 4 * j)) (512 - (18 + 4 * j)) rfl rfl HO7.out HR7.out (by rw [List.length_map, hlay2]; omega) (u8_one _) ?_; intro w8 ho8 hk8; have HO8 := Lib.hid (BytesAt.laid ho8 (by rw [le_len]; omega)); have HK8 := Lib.hid (HK6.out.trans' ((HK7.out.nob (G := Just g)).trans' hk8)); have q18 : w8.cell? ⟨pg, 2, none⟩ = some (.slice (some ⟨gb, go, none⟩) p.ss.length bc) := (hk8.cell (p := ⟨pg, 2, none⟩) (cell_lt q17) hne).trans q17; have q28 : w8.cell? ⟨gb, go + j, none⟩ = some (.slice ua b.length uc) := (hk8.cell (p := ⟨gb, go + j, none⟩) (cell_lt q27) hgbg).trans q27; clear ho8 hk8)))
          have HB8 : Hid (BytesAt w8 g 512 512 (put2 y2 (18 + 4 * j) ((b.length : Int) + 1)) (Just g)) := Lib.hid (by rw [← layB_le2 _ _ _ (by rw [hlay2]; omega)]; exact HO8.out)
          have HKw : Hid (Kept Nob w w8) := Lib.hid (HKr.out.trans HK8.out fun x hx e => by have e : x = g := e; have := HGe.out; omega)
          clear HP13 HR7 HK7 HO7 HB6 HK6 q17 q27 q16 q26 q18 q28 HO8 HK8 Q6
          go_wp2_with fail
          go_roundw
          case rel => exact ⟨j + 1, by omega, by go_num, by rw [HN.out], by rw [HN.out]; exact HB8.out, HKw.out⟩
          case measure => simp [intOf]; omega
    · have hje : j = p.ss.length := by omega
      subst hje
      generalize hbu : bytesUpTo p p.ss.length = bu at *
      obtain ⟨ys, en⟩ := bu
      simp only at HBr hlenj
      have HBo : Hid (bytesOf p = put4 ys 12 (crc ys)) := Lib.hid (by unfold bytesOf; rw [hbu])
      have HSm := Lib.hid fun (W : World) (q : Kept Nob wr W) => doc_sum W (.slice (some ⟨g, 0, none⟩) 512 512) ys (Just g) (Own.reads (Own.kept HBr.out q (fun _ _ f => f))) (by omega)
      clear hbu
      have hcr := crc_range ys
      have hwc : IntKind.u64.wrap (crc ys) = crc ys := by show (crc ys) % 18446744073709551616 = _; omega
      have HPc : Hid (∀ W, Kept Nob wr W → Calls Tryz.prog 95 #[.int .u64 (crc ys), .int .i64 4] W (PutTo W (crc ys) 4)) := Lib.hid fun W _ => put_to W _ hcr.1 hcr.2 4 (by omega)
      generalize crc ys = cs at *
      go_wp2_with fail
      go_region_held3 (fun w' => True) (trivial)
        ((first
          | (go_at_call 96; (with_reducible refine (HSm.out _ (Kept.drew Nob _)).mono ?_); rintro e w4 ⟨rfl, rfl⟩)
          | (go_at_call 95; (with_reducible refine (HPc.out _ (Kept.drew Nob _)).mono ?_); rintro e w7 ⟨pb, pc, rfl, hr7, hk7⟩; have HR7 := Lib.hid hr7; have HK7 := Lib.hid ((Kept.drew Nob _).trans' hk7); have HO7 := Lib.hid (Own.kept HBr.out HK7.out (fun _ _ f => f)); clear hr7 hk7)
          | (refine step_copy_pg rfl _ _ 50 50 rfl tBytes (.slice pb 4 pc) (ys.map (Value.int .u8)) ((le cs 4).map (Value.int .u8)) (Just g) _ g 512 512 12 500 500 rfl rfl HO7.out HR7.out (by rw [List.length_map, hlenj]; omega) (u8_one _) ?_; intro w8 ho8 hk8; have HO8 := Lib.hid (BytesAt.laid ho8 (by rw [le_len]; omega)); have HK8 := Lib.hid ((HKr.out.nob (G := Just g)).trans' ((HK7.out.nob (G := Just g)).trans' hk8)); clear ho8 hk8)))
      have HB8 : Hid (BytesAt w8 g 512 512 (put4 ys 12 cs) (Just g)) := Lib.hid (by rw [← layB_le4 _ _ _ (by rw [hlenj]; omega)]; exact HO8.out)
      go_wp2_with fail
      go_ret
      have hge := HGe.out
      refine ⟨g, rfl, ?_, HK8.out.mono fun x hx e => by have e : x = g := e; omega⟩
      rw [HBo.out]
      exact Own.mono HB8.out fun x _ e => by have e : x = g := e; show _ ≤ _; omega
end Go.Proofs.YthppgchmamonnaaGreatDoor
