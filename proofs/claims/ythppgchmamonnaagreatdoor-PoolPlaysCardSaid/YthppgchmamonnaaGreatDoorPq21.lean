/- Pages as bytes: Bytes. -/
import Derived.Test.YthppgchmamonnaaGreatDoorPq20
namespace Go.Proofs.YthppgchmamonnaaGreatDoor
open Go.RowKit
def layB (ys : List Int) (at_ : Nat) (bs : List Int) : List Int := ys.take at_ ++ (bs ++ ys.drop (at_ + bs.length))
theorem layB_length {ys : List Int} {at_ : Nat} {bs : List Int} (h : at_ + bs.length ≤ ys.length) : (layB ys at_ bs).length = ys.length := by
  simp only [layB, List.length_append, List.length_take, List.length_drop]; omega
def byteStep (i : Nat) (s : Option (List Int)) (acc : List Int × Nat) : List Int × Nat :=
  match s with
  | none => acc
  | some b => (put2 (put2 (layB acc.1 (acc.2 - b.length) b) (16 + 4 * i) ((acc.2 - b.length : Nat) : Int)) (18 + 4 * i) ((b.length : Int) + 1), acc.2 - b.length)
def headRow (p : PgM) : List Int := put4 (((List.replicate 512 (0 : Int)).set 0 (p.kind % 256)).set 1 ((p.ss.length : Int) % 256)) 2 p.id
def bytesUpTo (p : PgM) : Nat → List Int × Nat
  | 0 => (headRow p, 512)
  | j + 1 => byteStep j (p.ss.getD j none) (bytesUpTo p j)
def bytesOf (p : PgM) : List Int := put4 (bytesUpTo p p.ss.length).1 12 (crc (bytesUpTo p p.ss.length).1)
theorem headRow_length (p : PgM) : (headRow p).length = 512 := by rw [headRow, put4_length, List.length_set, List.length_set, List.length_replicate]
theorem bytesUpTo_end (p : PgM) (j : Nat) (h : j ≤ p.ss.length) : (bytesUpTo p j).2 = 512 - ((p.ss.take j).map slotLen).sum := by
  induction j with
  | zero => simp [bytesUpTo]
  | succ j ih =>
    have ih := ih (by omega)
    have hg : p.ss.getD j none = p.ss[j]'(by omega) := by rw [List.getD_eq_getElem?_getD, List.getElem?_eq_getElem (by omega)]; rfl
    rw [bytesUpTo, hg, sum_take p.ss j (by omega)]
    cases hs : p.ss[j]'(by omega) with
    | none => simp only [byteStep]; rw [ih]; simp [slotLen]
    | some b => simp only [byteStep]; rw [ih]; simp only [slotLen, Option.getD_some]; omega
theorem bytesUpTo_length (p : PgM) (hu : usedOf p.ss ≤ 512) (j : Nat) (h : j ≤ p.ss.length) : (bytesUpTo p j).1.length = 512 := by
  induction j with
  | zero => exact headRow_length p
  | succ j ih =>
    have ih := ih (by omega)
    have hg : p.ss.getD j none = p.ss[j]'(by omega) := by rw [List.getD_eq_getElem?_getD, List.getElem?_eq_getElem (by omega)]; rfl
    rw [bytesUpTo, hg]
    cases hs : p.ss[j]'(by omega) with
    | none => exact ih
    | some b =>
      simp only [byteStep]
      rw [put2_length, put2_length, layB_length, ih]
      have e := bytesUpTo_end p j (by omega)
      have hsum := sum_take p.ss j (by omega)
      rw [hs] at hsum
      simp only [slotLen, Option.getD_some] at hsum
      have h3 : ((p.ss.take (j + 1)).map slotLen).sum ≤ (p.ss.map slotLen).sum := by
        conv => rhs; rw [← List.take_append_drop (j + 1) p.ss, List.map_append, List.sum_append]
        omega
      unfold usedOf at hu
      rw [ih, e]
      omega
theorem laid_bytes (ys bs : List Int) (o dl : Nat) (h : bs.length ≤ dl) : laid (ys.map (Value.int .u8)) o dl (bs.map (Value.int .u8)) = (layB ys o bs).map (Value.int .u8) := by
  unfold laid layB
  rw [List.length_map, Nat.min_eq_left h, List.map_append, List.map_append, show (bs.map (Value.int .u8)).take dl = bs.map (Value.int .u8) from List.take_of_length_le (by simpa using h), ← List.map_take, ← List.map_drop]
theorem wrap_u32 (n : Int) : IntKind.u32.wrap n = n % 4294967296 := by
  simp [IntKind.wrap, IntKind.bits, IntKind.signed]
theorem crc_range (ys : List Int) : 0 ≤ crc ys ∧ crc ys < 4294967296 := by
  unfold crc
  simp only [bits, wrap_u32]
  omega
theorem far_drew {w : World} {b g i k : Nat} {v : Value} (h : b ≠ g) : ((w.setCell ⟨g, k, none⟩ v).drew).cell? ⟨b, i, none⟩ = w.cell? ⟨b, i, none⟩ := setCell_far h
theorem far2_drew {w : World} {b g i k l : Nat} {v u : Value} (h : b ≠ g) : (((w.setCell ⟨g, k, none⟩ v).setCell ⟨g, l, none⟩ u).drew).cell? ⟨b, i, none⟩ = w.cell? ⟨b, i, none⟩ := (setCell_far h).trans (setCell_far h)
set_option maxRecDepth 100000 in
set_option maxHeartbeats 2000000 in
theorem page_bytes (w : World) (pg : Nat) (p : PgM) (R : Nat → Prop) (h : PageAt w pg p R) (hz : Sized p.ss) (hu : usedOf p.ss ≤ 512) :
    Calls Tryz.prog 51 #[.pointer (some ⟨pg, 0, none⟩)] w fun e w' => ∃ g, e = .returned (.slice (some ⟨g, 0, none⟩) 512 512) ∧ BytesAt w' g 512 512 (bytesOf p) (From w.heap.size) ∧ Kept Nob w w' := by
  have hpl := h.lt
  obtain ⟨lv, q1, q2, q3⟩ := h
  have q2 := q2.mono (G := fun x => R x ∧ x < w.heap.size) fun k hk hr => ⟨hr, hk⟩
  obtain ⟨la, lc, rfl, -⟩ := q2.shape
  have HG := Lib.hid (page_gone w pg p.kind p.id _ q1)
  have H1 := Lib.hid q1
  have H2 := Lib.hid q2
  have hl60 := hz.1
  clear q1 q2 q3 hz
  go_enter Tryz.func51, Tryz.ntmps51
  go_wp2_with (first
    | (go_at_call 44; (with_reducible refine HG.out.mono ?_); rintro e w' ⟨rfl, rfl⟩)
    | (at_make; go_must (refine wpList_make_pg rfl _ _ 50 rfl tBytes rfl 512 .i64 .i64 rfl rfl (by omega) ?_); intro w1 ho1 hk1; have hb1 := (hk1.block pg hpl (fun f => f)).trans H1.out; have c1 : w1.cell? ⟨pg, 1, none⟩ = some (.int .i64 p.kind) := cell_at hb1 1 _ rfl; have c2 : w1.cell? ⟨pg, 2, none⟩ = some (.int .i64 p.id) := cell_at hb1 2 _ rfl; have c3 : w1.cell? ⟨pg, 3, none⟩ = some (.slice la p.ss.length lc) := cell_at hb1 3 _ rfl; have HB1 := Lib.hid hb1; have HO1 := Lib.hid ho1; have HK1 := Lib.hid hk1; clear ho1 hk1 hb1))
  obtain ⟨g, hg⟩ : ∃ g, w.heap.size = g := ⟨_, rfl⟩
  have HGe := Lib.hid hg
  rw [hg] at HO1 ⊢
  have hne : pg ≠ g := by omega
  have HO1' : Hid (BytesAt w1 g 512 512 (List.replicate 512 0) (Just g)) := Lib.hid (by
    have := HO1.out
    rw [show List.replicate 512 (Value.int .u8 0) = (List.replicate 512 (0 : Int)).map (Value.int .u8) from by rw [List.map_replicate]] at this
    exact ⟨this.1, fun j hj => by simp [Value.ownBlock] at hj; exact hj.symm⟩)
  have x0 : w1.cell? ⟨g, 0, none⟩ = some (.int .u8 0) := HO1'.out.cell 0 _ rfl
  have x1 : w1.cell? ⟨g, 1, none⟩ = some (.int .u8 0) := HO1'.out.cell 1 _ rfl
  have f0 := HO1'.out.frozen 0
  have f1 := HO1'.out.frozen 1
  clear HO1 hg
  go_region_held3 (fun w' => w'.cell? ⟨pg, 1, none⟩ = some (.int .i64 p.kind) ∧ w'.cell? ⟨pg, 3, none⟩ = some (.slice la p.ss.length lc)) (first | (go_keep; done) | exact ⟨(far_drew hne).trans c1, (far_drew hne).trans c3⟩ | exact ⟨(far2_drew hne).trans c1, (far2_drew hne).trans c3⟩) (fail)
  have HO2 : Hid (BytesAt ((w1.setCell ⟨g, 0, none⟩ (.int .u8 (IntKind.u8.wrap p.kind))).setCell ⟨g, 1, none⟩ (.int .u8 (IntKind.u8.wrap p.ss.length))) g 512 512 (((List.replicate 512 (0 : Int)).set 0 (p.kind % 256)).set 1 ((p.ss.length : Int) % 256)) (Just g)) := Lib.hid (by
    have := (HO1'.out.set 0 (.int .u8 (IntKind.u8.wrap p.kind))).set 1 (.int .u8 (IntKind.u8.wrap p.ss.length))
    unfold BytesAt
    rw [List.map_set, List.map_set]
    exact this)
  have HK2 := Lib.hid ((HK1.out.nob (G := Just g)).trans' (kept2 w1 g 0 1 (.int .u8 (IntKind.u8.wrap p.kind)) (.int .u8 (IntKind.u8.wrap p.ss.length))))
  generalize (w1.setCell ⟨g, 0, none⟩ (.int .u8 (IntKind.u8.wrap p.kind))).setCell ⟨g, 1, none⟩ (.int .u8 (IntKind.u8.wrap p.ss.length)) = w2 at *
  have hb2 : w2.heap[pg]? = _ := (HK2.out.block pg hpl (fun e => hne e)).trans H1.out
  have d2 : w2.cell? ⟨pg, 2, none⟩ = some (.int .i64 p.id) := cell_at hb2 2 _ rfl
  have HB2 := Lib.hid hb2
  clear c1 c2 c3 x0 x1 f0 f1 hb2 HO1' HB1 HK1
  have HP5 : Hid (∀ W, Kept Nob w2 W → Calls Tryz.prog 92 #[.slice (some ⟨g, 2, none⟩) 510 510, .int .i64 p.id] W fun e w' => e = .returned (.tuple #[]) ∧ BytesAt w' g 512 512 (headRow p) (Just g) ∧ Kept (Just g) W w') :=
    Lib.hid fun W k => put32_any W g 512 512 _ (Just g) (HO2.out.kept k (fun _ _ f => f)) 2 510 510 (by omega) (by omega) (by rw [List.length_set, List.length_set, List.length_replicate]; omega) p.id
  go_wp2_with fail
  go_region_held3 (fun w' => w'.cell? ⟨pg, 2, none⟩ = some (.int .i64 p.id)) (first | (go_keep; done) | assumption)
    ((go_at_call 92; first
      | ((with_reducible refine (HP5.out _ (Kept.drew Nob _)).mono ?_); rintro e w3 ⟨rfl, hb3, hk3⟩; have HB3 := Lib.hid hb3; have HK3 := Lib.hid ((HK2.out.trans' (Kept.drew _ _)).trans' hk3); have d2 := (HK3.out.block pg hpl (fun e => hne e)).trans H1.out; have d2 : w3.cell? ⟨pg, 2, none⟩ = some (.int .i64 p.id) := cell_at d2 2 _ rfl; clear hb3 hk3)
      | ((with_reducible refine (HP5.out _ ((Kept.drew Nob _).trans' (Kept.drew Nob _))).mono ?_); rintro e w3 ⟨rfl, hb3, hk3⟩; have HB3 := Lib.hid hb3; have HK3 := Lib.hid (((HK2.out.trans' (Kept.drew _ _)).trans' (Kept.drew _ _)).trans' hk3); have d2 := (HK3.out.block pg hpl (fun e => hne e)).trans H1.out; have d2 : w3.cell? ⟨pg, 2, none⟩ = some (.int .i64 p.id) := cell_at d2 2 _ rfl; clear hb3 hk3)))
  have hb3 := (HK3.out.block pg hpl (fun e => hne e)).trans H1.out
  have d3 : w3.cell? ⟨pg, 3, none⟩ = some (.slice la p.ss.length lc) := cell_at hb3 3 _ rfl
  have hk3 : Kept Nob w w3 := HK3.out.mono fun x hx e => by have e : x = g := e; have := HGe.out; omega
  have HR0 : Hid (BytesAt w3 g 512 512 (bytesUpTo p 0).1 (Just g) ∧ Kept Nob w w3) := Lib.hid ⟨HB3.out, hk3⟩
  have HLen := Lib.hid (bytesUpTo_length p hu)
  have HEnd := Lib.hid (bytesUpTo_end p)
  clear hb3 hk3 d2 HP5 HB2 HK2 HO2
  go_wp2_with fail
  go_loopw [4, 38] (fun en i wr => ∃ j : Nat, j ≤ p.ss.length ∧ i = .int .i64 j ∧ en = .int .i64 ((bytesUpTo p j).2 : Nat) ∧ BytesAt wr g 512 512 (bytesUpTo p j).1 (Just g) ∧ Kept Nob w wr) (fun _ i _ => p.ss.length - (intOf i).toNat)
  case atStart => exact ⟨0, Nat.zero_le _, rfl, rfl, HR0.out.1, HR0.out.2⟩
  case round =>
    clear HR0
    obtain ⟨j, hj, rfl, rfl, hbr, hkr⟩ := hrel
    have HBr := Lib.hid hbr
    have HKr := Lib.hid hkr
    have hgl : g < wr.heap.size := hbr.blockLt rfl
    have hlenj := HLen.out j hj
    have hendj := HEnd.out j hj
    clear hbr hkr
    by_cases hlt : j < p.ss.length
    · obtain ⟨sb, so, u, rfl, -, hsl, -, c0, c1, hrow⟩ := (H2.out.kept HKr.out (fun _ _ f => f)).at hlt
      have hgd : p.ss.getD j none = p.ss[j] := by rw [List.getD_eq_getElem?_getD, List.getElem?_eq_getElem hlt]; rfl
      have hst : Hid (bytesUpTo p (j + 1) = byteStep j p.ss[j] (bytesUpTo p j)) := Lib.hid (by rw [bytesUpTo, hgd])
      have hlen1 := HLen.out (j + 1) hlt
      have hend1 := HEnd.out (j + 1) hlt
      have hsum1 := sum_take p.ss j hlt
      have hmost : ((p.ss.take (j + 1)).map slotLen).sum + 16 + 4 * p.ss.length ≤ 512 := by
        have h3 : ((p.ss.take (j + 1)).map slotLen).sum ≤ (p.ss.map slotLen).sum := by
          conv => rhs; rw [← List.take_append_drop (j + 1) p.ss, List.map_append, List.sum_append]
          omega
        unfold usedOf at hu
        omega
      have hcap : ¬ (512 : Nat) = 16 + 4 * j := by omega
      have hle16 : (16 : Int) + 4 * (j : Int) ≤ 512 := by omega
      have HSum := Lib.hid (⟨hend1, hsum1, hmost⟩ : _ ∧ _ ∧ _)
      have HEj := Lib.hid hendj
      clear hgd hend1 hsum1 hmost hendj
      generalize hbu : bytesUpTo p j = bu at *
      obtain ⟨ys, en⟩ := bu
      simp only at HBr hlenj HEj
      have HBu := Lib.hid hbu
      clear hbu
      cases hs : p.ss[j] with
      | none =>
        rw [hs] at hrow c1 hst
        obtain rfl : u = .slice none 0 0 := hrow
        have HN : Hid (bytesUpTo p (j + 1) = (ys, en)) := Lib.hid (by rw [hst.out]; rfl)
        simp only [Option.isSome] at c1
        clear hs hst
        go_wp2_with fail
        go_roundw
        case rel => exact ⟨j + 1, by omega, by go_num, by rw [HN.out], by rw [HN.out]; exact Own.kept HBr.out (Kept.alloc Nob _ _) (fun _ _ f => f), HKr.out.then (Kept.alloc _ _ _)⟩
        case measure => simp [intOf]; omega
      | some b =>
        rw [hs] at hrow c1 hst HSum
        obtain ⟨ua, uc, rfl⟩ := hrow.shape
        simp only [slotLen, Option.getD_some] at HSum c0
        simp only [Option.isSome] at c1
        have hru : Reads wr (.slice ua b.length uc) (b.map (Value.int .u8)) (fun x => R x ∧ x < w.heap.size) := hrow
        obtain ⟨e2, he2⟩ : ∃ e2, en = e2 + b.length := ⟨en - b.length, by have h1 := HEj.out; have h2 := HSum.out; have h3 := h2.2.1; have h4 := h2.2.2; omega⟩
        have hlo : 16 + 4 * p.ss.length ≤ e2 ∧ e2 + b.length ≤ 512 := by have h1 := HEj.out; have h2 := HSum.out; have h3 := h2.2.1; have h4 := h2.2.2; omega
        subst he2
        have hsub : ((e2 + b.length : Nat) : Int) - (b.length : Int) = (e2 : Int) := by omega
        have HN : Hid (bytesUpTo p (j + 1) = (put2 (put2 (layB ys e2 b) (16 + 4 * j) (e2 : Int)) (18 + 4 * j) ((b.length : Int) + 1), e2)) := Lib.hid (by
          rw [hst.out]
          simp only [byteStep, Nat.add_sub_cancel])
        have HRu := Lib.hid hru
        have hlay : (layB ys e2 b).length = 512 := by rw [layB_length (by omega), hlenj]
        clear hrow hs hru d2 d3 hst HSum HEj q2 hlen1
        go_wp2_with fail
        have ka := Kept.alloc Nob wr (.cells #[.slice ua b.length uc, .bool true] 96)
        have HBa := Lib.hid (show BytesAt _ g 512 512 ys (Just g) from Own.kept HBr.out ka (fun _ _ f => f))
        have HRa := Lib.hid (HRu.out.kept ka (fun _ _ f => f))
        have va0 : (wr.alloc (.cells #[.slice ua b.length uc, .bool true] 96)).cell? ⟨wr.heap.size, 0, none⟩ = some (.slice ua b.length uc) := by simp
        have HKa := Lib.hid (HKr.out.then ka)
        have hvl : wr.heap.size < (wr.alloc (.cells #[.slice ua b.length uc, .bool true] 96)).heap.size := by simp
        have hgv : wr.heap.size ≠ g := by omega
        clear ka HBr HRu c0 c1
        generalize wr.alloc (.cells #[.slice ua b.length uc, .bool true] 96) = wa at *
        generalize wr.heap.size = v at *
        obtain ⟨L, hL⟩ : ∃ L, 512 - (16 + 4 * j) = L := ⟨_, rfl⟩
        rw [hL]
        have hL2 : L + (16 + 4 * j) = 512 := by omega
        have HL2 := Lib.hid hL2
        have hL3 : 250 ≤ L := by omega
        clear hL hL2
        have HOne : Hid (∀ c ∈ b.map (Value.int .u8), c.oneCell' = true) := Lib.hid fun c hc => (bytes_cells b c hc).one
        by_cases h512 : e2 = 512
        · have hb0 : b = [] := List.eq_nil_of_length_eq_zero (by omega)
          subst hb0 h512
          go_region_held3 (fun w' => w'.cell? ⟨v, 0, none⟩ = some (.slice ua 0 uc)) (first | (go_keep; done) | assumption)
            ((refine step_copy_pg rfl _ _ 50 50 rfl tBytes (.slice ua 0 uc) (ys.map (Value.int .u8)) [] (Just g) (fun x => R x ∧ x < w.heap.size) g 512 512 0 0 0 rfl rfl (Own.kept HBa.out (Kept.drew Nob _) (fun _ _ f => f)) (HRa.out.kept (Kept.drew Nob _) (fun _ _ f => f)) (by omega) HOne.out ?_; intro w4 ho4 hk4; have q1 : w4.cell? ⟨v, 0, none⟩ = some (.slice ua 0 uc) := (hk4.cell (p := ⟨v, 0, none⟩) hvl hgv).trans va0; have HO4 := Lib.hid ho4; have HK4 := Lib.hid ((Kept.drew (Just g) wa).trans' hk4); clear ho4 hk4))
          have HB4 : Hid (BytesAt w4 g 512 512 (layB ys 512 []) (Just g)) := Lib.hid (by have := HO4.out; rw [show laid (ys.map (Value.int .u8)) 0 0 [] = (layB ys 512 []).map (Value.int .u8) from by simp [laid, layB]] at this; exact this)
          have HP14 := Lib.hid (put16_any w4 g 512 512 _ (Just g) HB4.out (16 + 4 * j) L L (by omega) (by rw [hlay]; omega) ((512 : Nat) : Int))
          go_wp2_with fail
          refine HP14.out.mono ?_
          rintro e w5 ⟨rfl, hb5, hk5⟩
          have q5 : w5.cell? ⟨v, 0, none⟩ = some (.slice ua 0 uc) := (hk5.cell (p := ⟨v, 0, none⟩) (cell_lt q1) hgv).trans q1
          have HB5 := Lib.hid hb5
          have HK5 := Lib.hid (HK4.out.trans' hk5)
          have hcap3 : ¬ L = 2 := by omega
          have hlow2 : (2 : Int) ≤ (L : Int) := by omega
          have hwr : IntKind.i64.wrap 1 = ((0 : Nat) : Int) + 1 := IntWalk.i64_in _ ⟨by omega, by omega⟩
          have HP15 : Hid (∀ W, Kept Nob w5 W → Calls Tryz.prog 93 #[.slice (some ⟨g, 16 + 4 * j + 2, none⟩) (L - 2) (L - 2), .int .i64 (IntKind.i64.wrap 1)] W fun e w' => e = .returned (.tuple #[]) ∧ BytesAt w' g 512 512 (put2 (put2 (layB ys 512 []) (16 + 4 * j) ((512 : Nat) : Int)) (18 + 4 * j) (((0 : Nat) : Int) + 1)) (Just g) ∧ Kept (Just g) W w') :=
            Lib.hid fun W k => by
              have := put16_any W g 512 512 _ (Just g) (show BytesAt W g 512 512 _ (Just g) from Own.kept HB5.out k (fun _ _ f => f)) (16 + 4 * j + 2) (L - 2) (L - 2) (by omega) (by rw [put2_length, hlay]; omega) (((0 : Nat) : Int) + 1)
              rw [show 16 + 4 * j + 2 = 18 + 4 * j from by omega] at this ⊢
              rw [hwr]
              exact this
          clear hb5 hk5 HP14 q1 hwr
          go_wp2_with fail
          go_region_held3 (fun w' => w'.cell? ⟨v, 0, none⟩ = some (.slice ua 0 uc)) (first | (go_keep; done) | assumption)
            ((go_at_call 93; (with_reducible refine (HP15.out _ (Kept.drew Nob _)).mono ?_); rintro e w6 ⟨rfl, hb6, hk6⟩; have q6 : w6.cell? ⟨v, 0, none⟩ = some (.slice ua 0 uc) := ((hk6.cell (p := ⟨v, 0, none⟩) (cell_lt q5) hgv).trans q5); have HB6 := Lib.hid hb6; have HK6 := Lib.hid (HK5.out.trans' ((Kept.drew _ _).trans' hk6)); clear hb6 hk6))
          have HKw : Hid (Kept Nob w w6) := Lib.hid ((HKa.out).trans HK6.out fun x hx e => by have e : x = g := e; have := HGe.out; omega)
          go_wp2_with fail
          go_roundw
          case rel => exact ⟨j + 1, by omega, by go_num, by rw [HN.out]; rfl, by rw [HN.out]; exact HB6.out, HKw.out⟩
          case measure => simp [intOf]; omega
        · have hcap2 : ¬ 512 = e2 := fun e => h512 e.symm
          have hle2 : (e2 : Int) ≤ 512 := by omega
          go_region_held3 (fun w' => w'.cell? ⟨v, 0, none⟩ = some (.slice ua b.length uc)) (first | (go_keep; done) | assumption)
            ((refine step_copy_pg rfl _ _ 50 50 rfl tBytes (.slice ua b.length uc) (ys.map (Value.int .u8)) (b.map (Value.int .u8)) (Just g) (fun x => R x ∧ x < w.heap.size) g 512 512 e2 (512 - e2) (512 - e2) rfl rfl (Own.kept HBa.out (Kept.drew Nob _) (fun _ _ f => f)) (HRa.out.kept (Kept.drew Nob _) (fun _ _ f => f)) (by rw [List.length_map]; omega) HOne.out ?_; intro w4 ho4 hk4; have q1 : w4.cell? ⟨v, 0, none⟩ = some (.slice ua b.length uc) := (hk4.cell (p := ⟨v, 0, none⟩) hvl hgv).trans va0; have HO4 := Lib.hid ho4; have HK4 := Lib.hid ((Kept.drew (Just g) wa).trans' hk4); clear ho4 hk4))
          have HB4 : Hid (BytesAt w4 g 512 512 (layB ys e2 b) (Just g)) := Lib.hid (by have := HO4.out; rw [laid_bytes ys b e2 (512 - e2) (by omega)] at this; exact this)
          have HP14 := Lib.hid (put16_any w4 g 512 512 _ (Just g) HB4.out (16 + 4 * j) L L (by omega) (by rw [hlay]; omega) (e2 : Int))
          go_wp2_with fail
          refine HP14.out.mono ?_
          rintro e w5 ⟨rfl, hb5, hk5⟩
          have q5 : w5.cell? ⟨v, 0, none⟩ = some (.slice ua b.length uc) := (hk5.cell (p := ⟨v, 0, none⟩) (cell_lt q1) hgv).trans q1
          have HB5 := Lib.hid hb5
          have HK5 := Lib.hid (HK4.out.trans' hk5)
          have hcap3 : ¬ L = 2 := by omega
          have hlow2 : (2 : Int) ≤ (L : Int) := by omega
          have hwr : IntKind.i64.wrap ((b.length : Int) + 1) = (b.length : Int) + 1 := IntWalk.i64_in _ ⟨by omega, by omega⟩
          have HP15 : Hid (∀ W, Kept Nob w5 W → Calls Tryz.prog 93 #[.slice (some ⟨g, 16 + 4 * j + 2, none⟩) (L - 2) (L - 2), .int .i64 (IntKind.i64.wrap ((b.length : Int) + 1))] W fun e w' => e = .returned (.tuple #[]) ∧ BytesAt w' g 512 512 (put2 (put2 (layB ys e2 b) (16 + 4 * j) (e2 : Int)) (18 + 4 * j) ((b.length : Int) + 1)) (Just g) ∧ Kept (Just g) W w') :=
            Lib.hid fun W k => by
              have := put16_any W g 512 512 _ (Just g) (show BytesAt W g 512 512 _ (Just g) from Own.kept HB5.out k (fun _ _ f => f)) (16 + 4 * j + 2) (L - 2) (L - 2) (by omega) (by rw [put2_length, hlay]; omega) ((b.length : Int) + 1)
              rw [show 16 + 4 * j + 2 = 18 + 4 * j from by omega] at this ⊢
              rw [hwr]
              exact this
          clear hb5 hk5 HP14 q1 hwr
          go_wp2_with fail
          go_region_held3 (fun w' => w'.cell? ⟨v, 0, none⟩ = some (.slice ua b.length uc)) (first | (go_keep; done) | assumption)
            ((go_at_call 93; (with_reducible refine (HP15.out _ (Kept.drew Nob _)).mono ?_); rintro e w6 ⟨rfl, hb6, hk6⟩; have q6 : w6.cell? ⟨v, 0, none⟩ = some (.slice ua b.length uc) := ((hk6.cell (p := ⟨v, 0, none⟩) (cell_lt q5) hgv).trans q5); have HB6 := Lib.hid hb6; have HK6 := Lib.hid (HK5.out.trans' ((Kept.drew _ _).trans' hk6)); clear hb6 hk6))
          have HKw : Hid (Kept Nob w w6) := Lib.hid ((HKa.out).trans HK6.out fun x hx e => by have e : x = g := e; have := HGe.out; omega)
          go_wp2_with fail
          go_roundw
          case rel => exact ⟨j + 1, by omega, by go_num, by rw [HN.out], by rw [HN.out]; exact HB6.out, HKw.out⟩
          case measure => simp [intOf]; omega
    · have hje : j = p.ss.length := by omega
      subst hje
      generalize hbu : bytesUpTo p p.ss.length = bu at *
      obtain ⟨ys, en⟩ := bu
      simp only at HBr hlenj
      have HBo : Hid (bytesOf p = put4 ys 12 (crc ys)) := Lib.hid (by unfold bytesOf; rw [hbu])
      have HSm := Lib.hid (frame_sum wr.drew (.slice (some ⟨g, 0, none⟩) 512 512) ys (Just g) (Own.reads (Own.kept HBr.out (Kept.drew Nob _) (fun _ _ f => f))) (by omega))
      clear hbu
      have hcr := crc_range ys
      have hwr : IntKind.i64.wrap (crc ys) = crc ys := IntWalk.i64_in _ ⟨by omega, by omega⟩
      have HP17 : Hid (∀ W, Kept Nob wr W → Calls Tryz.prog 92 #[.slice (some ⟨g, 12, none⟩) 500 500, .int .i64 (IntKind.i64.wrap (crc ys))] W fun e w' => e = .returned (.tuple #[]) ∧ BytesAt w' g 512 512 (put4 ys 12 (crc ys)) (Just g) ∧ Kept (Just g) W w') :=
        Lib.hid fun W k => by
          have := put32_any W g 512 512 ys (Just g) (Own.kept HBr.out k (fun _ _ f => f)) 12 500 500 (by omega) (by omega) (by omega) (crc ys)
          rw [hwr]
          exact this
      have HHd := Lib.hid (H1.out)
      clear hwr hcr
      generalize crc ys = cs at *
      go_wp2_with fail
      go_region_held3 (fun w' => True) (trivial)
        ((first
          | (go_at_call 94; (with_reducible refine HSm.out.mono ?_); rintro e w4 ⟨rfl, rfl⟩)
          | (go_at_call 92; first
            | ((with_reducible refine (HP17.out _ (Kept.drew Nob _)).mono ?_); rintro e w5 ⟨rfl, hb5, hk5⟩; have HB5 := Lib.hid hb5; have HK5 := Lib.hid (((HKr.out.nob (G := Just g)).trans' (Kept.drew _ _)).trans' hk5); clear hb5 hk5)
            | ((with_reducible refine (HP17.out _ ((Kept.drew Nob _).trans' (Kept.drew Nob _))).mono ?_); rintro e w5 ⟨rfl, hb5, hk5⟩; have HB5 := Lib.hid hb5; have HK5 := Lib.hid ((((HKr.out.nob (G := Just g)).trans' (Kept.drew _ _)).trans' (Kept.drew _ _)).trans' hk5); clear hb5 hk5))))
      go_wp2_with fail
      go_ret
      have hge := HGe.out
      refine ⟨g, rfl, ?_, HK5.out.mono fun x hx e => by have e : x = g := e; omega⟩
      rw [HBo.out]
      exact Own.mono HB5.out fun x _ e => by have e : x = g := e; show _ ≤ _; omega
end Go.Proofs.YthppgchmamonnaaGreatDoor
