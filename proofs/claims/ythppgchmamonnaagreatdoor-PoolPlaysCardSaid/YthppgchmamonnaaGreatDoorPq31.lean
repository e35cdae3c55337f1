/- The document's own page: Parse. -/
import Derived.Test.YthppgchmamonnaaGreatDoorPq24
import Derived.Test.YthppgchmamonnaaGreatDoorPq29
import Derived.Laws.BytesArg
namespace Go.Proofs.YthppgchmamonnaaGreatDoor
open Go.RowKit
theorem gl_two (ys : List Int) (o : Nat) (h : o + 1 < ys.length) : gl ((ys.drop o).take 2) = g16 ys o := by
  rw [List.drop_eq_getElem_cons (by omega), List.take_succ_cons, List.drop_eq_getElem_cons (by omega), List.take_succ_cons, List.take_zero]
  unfold g16
  rw [List.getD_eq_getElem?_getD, List.getElem?_eq_getElem (by omega), List.getD_eq_getElem?_getD, List.getElem?_eq_getElem h]
  simp [gl]
theorem gl_four (ys : List Int) (o : Nat) (h : o + 3 < ys.length) : gl ((ys.drop o).take 4) = g16 ys o + 65536 * g16 ys (o + 2) := by
  rw [List.drop_eq_getElem_cons (by omega), List.take_succ_cons, List.drop_eq_getElem_cons (by omega), List.take_succ_cons, List.drop_eq_getElem_cons (by omega), List.take_succ_cons, List.drop_eq_getElem_cons (by omega), List.take_succ_cons, List.take_zero]
  unfold g16
  rw [List.getD_eq_getElem?_getD, List.getElem?_eq_getElem (by omega), List.getD_eq_getElem?_getD, List.getElem?_eq_getElem (by omega), List.getD_eq_getElem?_getD, List.getElem?_eq_getElem (by omega), List.getD_eq_getElem?_getD, List.getElem?_eq_getElem (by omega)]
  simp [gl]
  have e1 : ys[o + 1 + 1]'(by omega) = ys[o + 2]'(by omega) := rfl
  have e2 : ys[o + 1 + 1 + 1]'(by omega) = ys[o + 2 + 1]'(by omega) := rfl
  omega
theorem InB.drop {ys : List Int} (h : InB ys) (o : Nat) : InB (ys.drop o) := fun y hy => h y (List.mem_of_mem_drop hy)
def GetTo (W : World) (x : Int) (e : Ending) (w' : World) : Prop := e = .returned (.int .i64 x) ∧ Kept Nob W w'
theorem get_two (w : World) (b o l c : Nat) (ys : List Int) (F : Nat → Prop) (h : Reads w (.slice (some ⟨b, o, none⟩) l c) (ys.map (Value.int .u8)) F) (hB : InB ys) (k : Nat) (hk : k + 1 < ys.length) :
    Calls Tryz.prog 111 #[.slice (some ⟨b, o + k, none⟩) (l - k) (c - k), .int .i64 2] w (GetTo w (g16 ys k)) := by
  have hr := h.dropped k (by rw [List.length_map]; omega)
  rw [← List.map_drop] at hr
  have := doc_get w _ _ _ (ys.drop k) F hr (hB.drop k) 2 (by rw [List.length_drop]; omega) (by omega)
  rw [gl_two ys k hk] at this
  exact this
theorem decSlots_inB {ys : List Int} (h : InB ys) : ∀ (j : Nat) (l : List (Option (List Int))), decSlots ys j = some l → ∀ b, some b ∈ l → InB b := by
  intro j
  induction j with
  | zero => intro l hl b hb; simp [decSlots] at hl; subst hl; simp at hb
  | succ j ih =>
    intro l hl b hb
    rw [decSlots] at hl
    cases hd : decSlots ys j with
    | none => rw [hd] at hl; simp at hl
    | some l0 =>
      rw [hd] at hl
      cases hs : slotAt ys j with
      | none => rw [hs] at hl; simp at hl
      | some s =>
        rw [hs] at hl
        simp at hl
        subst hl
        rcases List.mem_append.1 hb with hb | hb
        · exact ih l0 hd b hb
        · rw [List.mem_singleton] at hb
          subst hb
          unfold slotAt at hs
          split at hs
          · simp at hs
          · split at hs
            · simp at hs
            · simp at hs
              rw [← hs]
              exact fun y hy => h y (List.mem_of_mem_drop (List.mem_of_mem_take hy))
theorem strOfNums_inj {xs ys : List Int} (hx : InB xs) (hy : InB ys) (h : (strOfNums xs).toList = (strOfNums ys).toList) : xs = ys := by
  rw [ByteArray.toList_eq, ByteArray.toList_eq, strOfNums_data, strOfNums_data] at h
  have : ∀ (xs ys : List Int), InB xs → InB ys → xs.map (fun n => UInt8.ofNat n.toNat) = ys.map (fun n => UInt8.ofNat n.toNat) → xs = ys := by
    intro xs
    induction xs with
    | nil => intro ys _ _ h; cases ys with
      | nil => rfl
      | cons => simp at h
    | cons x r ih =>
      intro ys hx hy h
      cases ys with
      | nil => simp at h
      | cons y s =>
        simp only [List.map_cons, List.cons.injEq] at h
        have h1 := congrArg UInt8.toNat h.1
        have b1 := hx x (by simp)
        have b2 := hy y (by simp)
        rw [UInt8.toNat_ofNat', UInt8.toNat_ofNat', Nat.mod_eq_of_lt (by omega), Nat.mod_eq_of_lt (by omega)] at h1
        rw [ih s (fun z hz => hx z (by simp [hz])) (fun z hz => hy z (by simp [hz])) h.2, show x = y from by omega]
  exact this xs ys hx hy h
def DParseRel (w : World) (ys : List Int) (pg : Nat) (j : Nat) (wr : World) : Prop :=
  ∃ ss bv hv, decSlots ys j = some ss ∧ DPgB wr pg (ys.getD 0 0) (g16 ys 2 + 65536 * g16 ys 4) bv hv (dRows ss) (dHas ss) (fun x => w.heap.size ≤ x ∧ x < wr.heap.size ∧ x ≠ pg) ∧ Kept Nob w wr
def RetDParse (w : World) (ys : List Int) (e : Ending) (w' : World) : Prop :=
  Kept Nob w w' ∧ (parseOf ys = none → e = .returned (.tuple #[.pointer none, .int .i64 10])) ∧
  ∀ p, parseOf ys = some p → ∃ pg, e = .returned (.tuple #[.pointer (some ⟨pg, 0, none⟩), .int .i64 0]) ∧ w.heap.size ≤ pg ∧ DPgAt w' pg p (fun x => w.heap.size ≤ x ∧ x < w'.heap.size ∧ x ≠ pg)
theorem RetDParse.no {w w' : World} {ys : List Int} (hp : parseOf ys = none) (hk : Kept Nob w w') : RetDParse w ys (.returned (.tuple #[.pointer none, .int .i64 10])) w' :=
  ⟨hk, fun _ => rfl, fun p h => by rw [hp] at h; cases h⟩
theorem RetDParse.yes {w w' : World} {ys : List Int} {p : PgM} {pg : Nat} (hp : parseOf ys = some p) (hk : Kept Nob w w') (hg : w.heap.size ≤ pg) (h : DPgAt w' pg p (fun x => w.heap.size ≤ x ∧ x < w'.heap.size ∧ x ≠ pg)) : RetDParse w ys (.returned (.tuple #[.pointer (some ⟨pg, 0, none⟩), .int .i64 0])) w' :=
  ⟨hk, (fun h => by rw [hp] at h; cases h), fun p' h' => by rw [hp] at h'; obtain rfl := Option.some.inj h'; exact ⟨pg, rfl, hg, h⟩⟩
theorem dRows_snoc (ss : List (Option (List Int))) (s : Option (List Int)) : dRows (ss ++ [s]) = dRows ss ++ [(s.getD []).map (Value.int .u8)] := by simp [dRows]
theorem dHas_snoc (ss : List (Option (List Int))) (s : Option (List Int)) : dHas (ss ++ [s]) = dHas ss ++ [.bool s.isSome] := by simp [dHas]
theorem decSlots_more {ys : List Int} {j : Nat} {ss : List (Option (List Int))} {s : Option (List Int)} (h : decSlots ys j = some ss) (hs : slotAt ys j = some s) : decSlots ys (j + 1) = some (ss ++ [s]) := by
  rw [decSlots, h]
  simp [hs]
theorem parseOf_dead {ys : List Int} (_hB : InB ys) {j : Nat} (h : slotAt ys j = none) (hj : (j : Int) < ys.getD 1 0) : parseOf ys = none := by
  unfold parseOf
  split
  · rfl
  · rw [decSlots_dead h _ (by omega)]; rfl
theorem DParseRel.more {w wr w2 : World} {ys : List Int} {pg j : Nat} {ss : List (Option (List Int))} {s : Option (List Int)} {bv hv : Value} {R : Nat → Prop} (hd : decSlots ys j = some ss) (hs : slotAt ys j = some s) (hk : Kept Nob w wr) {F : Nat → Prop} (hk2 : Kept F wr w2) (hF : ∀ x, x < wr.heap.size → F x → w.heap.size ≤ x)
    (h : DPgB w2 pg (ys.getD 0 0) (g16 ys 2 + 65536 * g16 ys 4) bv hv (dRows ss ++ [(s.getD []).map (Value.int .u8)]) (dHas ss ++ [.bool s.isSome]) R) (hR : ∀ x, R x → w.heap.size ≤ x) : DParseRel w ys pg (j + 1) w2 := by
  refine ⟨ss ++ [s], bv, hv, decSlots_more hd hs, ?_, hk.trans hk2 fun x hx f => ?_⟩
  · rw [dRows_snoc, dHas_snoc]
    exact h.mono (fun x hx hr => ⟨hR x hr, hx, fun e => h.out (by rw [← e]; exact hr)⟩) (fun e => e.2.2 rfl)
  · have := hF x (Nat.lt_of_lt_of_le hx hk.size) f
    omega
set_option maxRecDepth 100000 in
set_option maxHeartbeats 8000000 in
theorem dpage_parse (w : World) (vb vo vc : Nat) (ys : List Int) (F : Nat → Prop) (h : Reads w (.slice (some ⟨vb, vo, none⟩) 512 vc) (ys.map (Value.int .u8)) F) (hl : ys.length = 512) (hB : InB ys) :
    Calls Tryz.prog 91 #[.slice (some ⟨vb, vo, none⟩) 512 vc] w (RetDParse w ys) := by
  have hvc : 512 ≤ vc := by
    rcases h with ⟨hx, _⟩ | ⟨_, _, _, hv, hc, _⟩
    · have := congrArg List.length hx; rw [List.length_map, hl] at this; simp at this
    · simp only [Value.slice.injEq] at hv; rw [List.length_map, hl] at hc; omega
  have hcell : ∀ i, i < 512 → w.cell? ⟨vb, vo + i, none⟩ = some (.int .u8 (ys.getD i 0)) := fun i hi => by
    rcases h with ⟨hx, _⟩ | ⟨_, _, _, hv, hc, _, _, hcc⟩
    · have := congrArg List.length hx; rw [List.length_map, hl] at this; simp at this
    · simp only [Value.slice.injEq, Option.some.injEq, Addr.mk.injEq] at hv
      obtain ⟨⟨rfl, rfl, -⟩, -, rfl⟩ := hv
      exact hcc i _ (by rw [List.getElem?_map, List.getD_eq_getElem?_getD, List.getElem?_eq_getElem (by omega)]; rfl)
  have hvb : vb < w.heap.size := cell_lt (hcell 0 (by omega))
  have hy0 := hB.getD 0
  have hy1 := hB.getD 1
  have H := Lib.hid (h.mono (G := fun x => x < w.heap.size) fun k hk _ => hk)
  have HB := Lib.hid hB
  have HC := Lib.hid hcell
  have HL := Lib.hid hl
  have z0 : w.cell? ⟨vb, vo, none⟩ = some (.int .u8 (ys.getD 0 0)) := hcell 0 (by omega)
  have HY0 := Lib.hid z0
  have HG4 : Hid (∀ W, Kept Nob w W → Calls Tryz.prog 111 #[.slice (some ⟨vb, vo + 2, none⟩) 510 (vc - 2), .int .i64 4] W (GetTo W (g16 ys 2 + 65536 * g16 ys 4))) := Lib.hid fun W q => by
    have hr := (h.kept q (fun _ _ f => f)).dropped 2 (by rw [List.length_map, hl]; omega)
    rw [← List.map_drop] at hr
    have := doc_get W _ _ _ (ys.drop 2) F hr (hB.drop 2) 4 (by rw [List.length_drop, hl]; omega) (by omega)
    rw [gl_four ys 2 (by omega)] at this
    exact this
  have hcap2 : ¬ vc = 2 := by omega
  have hnz : ¬ vc = 0 := by omega
  have hc2 : (2 : Int) ≤ (vc : Int) := by omega
  clear h hB hcell hl
  go_enter Tryz.func91, Tryz.ntmps91
  go_upto_region 3 with fail
  obtain ⟨id0, hid0⟩ : ∃ id0 : Int, id0 = g16 ys 2 + 65536 * g16 ys 4 := ⟨_, rfl⟩
  rw [← hid0] at HG4
  have HId := Lib.hid hid0
  clear hid0
  generalize hk0 : ys.getD 0 0 = kd at *
  have HK0 := Lib.hid hk0
  clear hk0
  have hwk : IntKind.i64.wrap kd = kd := IntWalk.i64_in _ ⟨by omega, by omega⟩
  go_region_held3 (fun w' => w'.cell? ⟨vb, vo, none⟩ = some (.int .u8 kd)) (first | (go_keep; done) | assumption)
    ((go_at_call 111; (with_reducible refine (HG4.out _ (Kept.drew Nob _)).mono ?_); rintro e w2 ⟨rfl, hk2⟩; have HK2 := Lib.hid ((Kept.drew Nob _).trans' hk2); have z02 : w2.cell? ⟨vb, vo, none⟩ = some (.int .u8 kd) := (HK2.out.cell (p := ⟨vb, vo, none⟩) hvb (fun f => f)).trans HY0.out; clear hk2))
  have HP0 : Hid (DPgB (w2.alloc (.cells #[.int .i64 kd, .int .i64 id0, .slice none 0 0, .slice none 0 0] 106)) w2.heap.size kd id0 (.slice none 0 0) (.slice none 0 0) [] [] Nob) := Lib.hid ⟨heap_alloc_new w2 _, ⟨[], Own.nil _ _ _, RowsAt.nil _ _ _⟩, Own.nil _ _ _, fun f => f⟩
  have HKa := Lib.hid (HK2.out.then (Kept.alloc Nob w2 (.cells #[.int .i64 kd, .int .i64 id0, .slice none 0 0, .slice none 0 0] 106)))
  have hpg : w.heap.size ≤ w2.heap.size := HK2.out.size
  clear z02 HK2 hwk
  generalize w2.alloc (.cells #[.int .i64 kd, .int .i64 id0, .slice none 0 0, .slice none 0 0] 106) = w3 at *
  generalize w2.heap.size = pg at *
  have z1 : w3.cell? ⟨vb, vo + 1, none⟩ = some (.int .u8 (ys.getD 1 0)) := (HKa.out.cell (p := ⟨vb, vo + 1, none⟩) hvb (fun f => f)).trans (HC.out 1 (by omega))
  obtain ⟨n, hn⟩ : ∃ n : Nat, (n : Int) = ys.getD 1 0 := ⟨(ys.getD 1 0).toNat, by omega⟩
  rw [← hn] at z1 hy1
  have HN := Lib.hid hn
  clear hn
  have hn255 : n < 256 := by omega
  clear hy1 hy0
  by_cases h60 : 60 < n
  · have HNo : Hid (parseOf ys = none) := Lib.hid (by unfold parseOf; rw [if_pos (by rw [← HN.out]; omega)])
    go_wp2_with fail
    go_ret2
    exact RetDParse.no HNo.out HKa.out
  have hn60 : n ≤ 60 := by omega
  have HR0 : Hid (DParseRel w ys pg 0 w3) := Lib.hid ⟨[], _, _, rfl, by
    rw [HK0.out, ← HId.out]
    exact HP0.out.mono (fun _ _ f => f.elim) (fun e => e.2.2 rfl), HKa.out⟩
  clear HP0 h60 HY0 hcap2 hc2 HG4 HKa
  go_wp2_with fail
  clear z1
  go_loopw [6, 7, 8] (fun i a k wr => ∃ j : Nat, j ≤ n ∧ i = .int .i64 j ∧ DParseRel w ys pg j wr) (fun i _ _ _ => n - (intOf i).toNat)
  case atStart => exact ⟨0, Nat.zero_le _, rfl, HR0.out⟩
  case round =>
    clear HR0
    obtain ⟨j, hj, rfl, ss, bv, hv, hdec, hB, hkw⟩ := hrel
    rw [HK0.out, ← HId.out] at hB
    have HD := Lib.hid hdec
    have HP := Lib.hid hB
    have HKw := Lib.hid hkw
    have hlen : Hid (ss.length = j) := Lib.hid (decSlots_len ys j ss hdec)
    have hplr : pg < wr.heap.size := hB.lt
    clear hdec hB hkw
    by_cases hlt : j < n
    · have HGa : Hid (∀ W, Kept Nob wr W → Calls Tryz.prog 111 #[.slice (some ⟨vb, vo + (16 + 4 * j), none⟩) (512 - (16 + 4 * j)) (vc - (16 + 4 * j)), .int .i64 2] W (GetTo W (g16 ys (16 + 4 * j)))) := Lib.hid fun W q => get_two W _ _ _ _ ys _ ((H.out.kept HKw.out (fun _ _ f => f)).kept q (fun _ _ f => f)) HB.out _ (by rw [HL.out]; omega)
      have HGk : Hid (∀ W, Kept Nob wr W → Calls Tryz.prog 111 #[.slice (some ⟨vb, vo + (18 + 4 * j), none⟩) (512 - (18 + 4 * j)) (vc - (18 + 4 * j)), .int .i64 2] W (GetTo W (g16 ys (18 + 4 * j)))) := Lib.hid fun W q => get_two W _ _ _ _ ys _ ((H.out.kept HKw.out (fun _ _ f => f)).kept q (fun _ _ f => f)) HB.out _ (by rw [HL.out]; omega)
      obtain ⟨at_, hat⟩ : ∃ a : Nat, (a : Int) = g16 ys (16 + 4 * j) := ⟨(g16 ys (16 + 4 * j)).toNat, by have := HB.out.g16 (16 + 4 * j); omega⟩
      obtain ⟨k, hk⟩ : ∃ k : Nat, (k : Int) = g16 ys (18 + 4 * j) := ⟨(g16 ys (18 + 4 * j)).toNat, by have := HB.out.g16 (18 + 4 * j); omega⟩
      have hab : at_ < 65536 := by have := HB.out.g16 (16 + 4 * j); omega
      have hkb : k < 65536 := by have := HB.out.g16 (18 + 4 * j); omega
      have HSl : Hid (slotAt ys j = if (k : Int) - 1 < 0 then some none else if 512 < (at_ : Int) + ((k : Int) - 1) ∨ 400 < (k : Int) - 1 then none else some (some ((ys.drop at_).take (k - 1)))) := Lib.hid (by
        unfold slotAt
        rw [← hat, ← hk, Int.toNat_natCast]
        congr 1
        congr 1
        congr 2
        congr 1
        omega)
      rw [← hat] at HGa
      rw [← hk] at HGk
      have hcap16 : ¬ vc = 16 + 4 * j := by omega
      have hcap18 : ¬ vc = 18 + 4 * j := by omega
      have hc16 : (16 : Int) + 4 * (j : Int) ≤ 512 := by omega
      have hc18 : (18 : Int) + 4 * (j : Int) ≤ 512 := by omega
      have hp16 : (0 : Int) ≤ (16 : Int) + 4 * (j : Int) := by omega
      have hp18 : (0 : Int) ≤ (18 : Int) + 4 * (j : Int) := by omega
      have hn16 : ((16 : Int) + 4 * (j : Int)).toNat = 16 + 4 * j := by omega
      have hn18 : ((18 : Int) + 4 * (j : Int)).toNat = 18 + 4 * j := by omega
      clear hat hk
      go_upto_region 11 with (go_at_call 111; (with_reducible refine (HGa.out _ (Kept.refl _ _)).mono ?_); rintro e w4 ⟨rfl, hk4⟩; have HK4 := Lib.hid hk4; clear hk4)
      go_upto_region 12 with (go_at_call 111; (with_reducible refine (HGk.out _ HK4.out).mono ?_); rintro e w5 ⟨rfl, hk5⟩; have HK5 := Lib.hid (HK4.out.then hk5); clear hk5)
      have HP5 := Lib.hid (HP.out.kept HK5.out (fun f => f) (fun _ _ f => f))
      have HKw5 := Lib.hid (HKw.out.then HK5.out)
      have hpl5 : pg < w5.heap.size := HP5.out.lt
      clear HGa HGk hcap16 hcap18 hc16 hc18 hp16 hp18 hn16 hn18 HK4 HP HKw hplr
      have hs5 := HK5.out.size
      have hb5 := HP5.out.head
      obtain ⟨ha, hc, rfl, -⟩ := HP5.out.has.reads.shape
      rw [dHas_length, hlen.out] at hb5
      have c3 : w5.cell? ⟨pg, 3, none⟩ = some (.slice ha j hc) := cell_at hb5 3 _ rfl
      have HOh : Hid (Own w5 4 (.slice ha j hc) (dHas ss) (fun x => w.heap.size ≤ x ∧ x < wr.heap.size ∧ x ≠ pg)) := Lib.hid (by
        have := HP5.out.has
        rw [dHas_length, hlen.out] at this
        exact this)
      have hszA : ((dHas ss).length + 1) * (1 + 1) ≤ 140737488355328 := by rw [dHas_length, hlen.out]; omega
      have HPj : Hid (DPgB w5 pg kd id0 bv (.slice ha j hc) (dRows ss) (dHas ss) (fun x => w.heap.size ≤ x ∧ x < wr.heap.size ∧ x ≠ pg)) := Lib.hid (by
        have := HP5.out
        rw [dHas_length, hlen.out] at this
        exact this)
      have HLH : Hid ((dHas ss).length = j) := Lib.hid (by rw [dHas_length, hlen.out])
      clear hb5 HP5
      rcases (show k = 0 ∨ 0 < k by omega) with hk0 | hk0
      · -- a free slot
        subst hk0
        have HSn : Hid (slotAt ys j = some none) := Lib.hid (by rw [HSl.out, if_pos (by omega)])
        clear HSl
        go_upto_region 14 with (at_builtin; refine wpList_append1_pg rfl _ _ 98 rfl tFlags (.slice ha j hc) (dHas ss) (.bool false) _ ⟨w5.heap.size, 0, none⟩ 1 rfl rfl (HOh.out.alloc _) (by simp) rfl (Nat.le_refl _) rfl hszA ?_; intro g1 k1 w6 ho2 hk2; rw [HLH.out] at ho2 ⊢; have c32 := cell_at (HPj.out.hasHead hk2) 3 _ rfl; have f32 := frozen_at (HPj.out.hasHead hk2) 3; have HG1 := Lib.hid (HPj.out.low.growHas ho2 hk2); clear ho2 hk2)
        have HB7 := Lib.hid HG1.out.1
        have HK7 := Lib.hid HG1.out.2
        clear HG1 c32 f32 c3
        have hs7 := HK7.out.size
        generalize w6.setCell ⟨pg, 3, none⟩ (.slice (some ⟨g1, 0, none⟩) (j + 1) k1) = W7 at *
        obtain ⟨ba, bc, vs7, e7, hv7, hrw7⟩ := HB7.out.rows.shape
        subst e7
        rw [dRows_length, hlen.out] at hv7
        have hb7 := HB7.out.head
        rw [dRows_length, hlen.out] at hb7
        have c27 : W7.cell? ⟨pg, 2, none⟩ = some (.slice ba j bc) := cell_at hb7 2 _ rfl
        have HL7 : Hid (vs7.length = j) := Lib.hid (by rw [hrw7.len, dRows_length, hlen.out])
        have HV7 := Lib.hid hv7
        have HRW7 := Lib.hid hrw7
        have HB7 : Hid (DPgB W7 pg kd id0 (.slice ba j bc) (.slice (some ⟨g1, 0, none⟩) (j + 1) k1) (dRows ss) (dHas ss ++ [.bool false]) (fun k => ((w.heap.size ≤ k ∧ k < wr.heap.size ∧ k ≠ pg) ∧ k < w5.heap.size) ∨ (w5.heap.size ≤ k ∧ k < W7.heap.size))) := Lib.hid (by
          have := HB7.out
          rw [dRows_length, hlen.out] at this
          exact this)
        have HKx : Hid (∀ x, PgF pg (fun k => (w.heap.size ≤ k ∧ k < wr.heap.size ∧ k ≠ pg) ∧ k < w5.heap.size) x → w.heap.size ≤ x) := Lib.hid fun x e => by
          rcases e with e | e
          · rw [e]; exact hpg
          · exact e.1.1
        have hszB : (vs7.length + 1) * (24 + 1) ≤ 140737488355328 := by rw [HL7.out]; omega
        have hpl7 : pg < W7.heap.size := cell_lt c27
        have hw57 : w.heap.size ≤ w5.heap.size := HKw5.out.size
        clear hv7 hrw7 hb7
        go_wp2_with (at_builtin; refine wpList_append1_pg rfl _ _ 70 rfl tRows (.slice ba j bc) vs7 (.slice none 0 0) _ ⟨W7.heap.size, 0, none⟩ 1 rfl rfl (HV7.out.alloc _) (by simp) rfl (Nat.le_refl _) rfl hszB ?_; intro g2 k2 w8 ho2 hk2; rw [HL7.out] at ho2 ⊢; have c24 := cell_at (HB7.out.rowsHead hk2) 2 _ rfl; have f24 := frozen_at (HB7.out.rowsHead hk2) 2; have HG2 := Lib.hid (HB7.out.growRows HV7.out HRW7.out (G := Nob) (fun _ _ f => f) (Own.nil _ _ _) ho2 hk2 (fun f => f)); clear ho2 hk2)
        have HN2 : Hid (DParseRel w ys pg (j + 1) (w8.setCell ⟨pg, 2, none⟩ (.slice (some ⟨g2, 0, none⟩) (j + 1) k2))) := Lib.hid (by
          have h := HG2.out
          rw [HId.out, ← HK0.out] at h
          refine DParseRel.more HD.out HSn.out (HKw5.out.from (Nat.le_refl _) (HK7.out.mono fun x _ e => HKx.out x e)) h.2 (fun x hx e => ?_) h.1 (fun x e => ?_)
          · rcases e with e | e | e
            · rw [e]; exact hpg
            · exact e.1.1
            · omega
          · rcases e with (e | e) | e | e
            · exact e.1.1
            · omega
            · exact e.elim
            · omega)
        go_roundw
        case rel => exact ⟨j + 1, by omega, by go_num, HN2.out⟩
        case measure => simp [intOf]; omega
      · by_cases hbad : 512 < at_ ∨ 512 < at_ + (k - 1) ∨ 401 < k
        · have HSn : Hid (parseOf ys = none) := Lib.hid (parseOf_dead HB.out (j := j) (by rw [HSl.out, if_neg (by omega), if_pos (by omega)]) (by rw [← HN.out]; omega))
          clear HSl
          by_cases hb1 : 512 < at_
          · clear hbad
            go_wp2_with fail
            go_ret2
            exact RetDParse.no HSn.out HKw5.out
          · by_cases hb2 : 512 < at_ + (k - 1)
            · have hb2' : (512 : Int) - (at_ : Int) < (k : Int) - 1 := by omega
              clear hbad
              go_wp2_with fail
              go_ret2
              exact RetDParse.no HSn.out HKw5.out
            · have hb3 : 401 < k := by omega
              have hb2' : ¬ (512 : Int) - (at_ : Int) < (k : Int) - 1 := by omega
              clear hbad
              go_wp2_with fail
              go_ret2
              exact RetDParse.no HSn.out HKw5.out
        · obtain ⟨m, rfl⟩ : ∃ m, k = m + 1 := ⟨k - 1, by omega⟩
          have hat1 : at_ ≤ 512 := by omega
          have hat2 : at_ + m ≤ 512 := by omega
          have hm1 : m ≤ 400 := by omega
          have HSn : Hid (slotAt ys j = some (some ((ys.drop at_).take m))) := Lib.hid (by rw [HSl.out, if_neg (by omega), if_neg (by omega), Nat.add_sub_cancel])
          have hb2' : ¬ (512 : Int) - (at_ : Int) < ((m : Int) + 1) - 1 := by omega
          clear HSl hbad hk0
          have hat3 : ¬ 512 < at_ := by omega
          have hb3' : ¬ (401 : Int) < (m : Int) + 1 := by omega
          go_upto_region 18 with (at_builtin; refine wpList_append1_pg rfl _ _ 98 rfl tFlags (.slice ha j hc) (dHas ss) (.bool true) _ ⟨w5.heap.size, 0, none⟩ 1 rfl rfl (HOh.out.alloc _) (by simp) rfl (Nat.le_refl _) rfl hszA ?_; intro g1 k1 w6 ho2 hk2; rw [HLH.out] at ho2 ⊢; have c32 := cell_at (HPj.out.hasHead hk2) 3 _ rfl; have f32 := frozen_at (HPj.out.hasHead hk2) 3; have HG1 := Lib.hid (HPj.out.low.growHas ho2 hk2); clear ho2 hk2)
          have HB7 := Lib.hid HG1.out.1
          have HK7 := Lib.hid HG1.out.2
          clear HG1 c32 f32 c3
          have hs7 := HK7.out.size
          generalize w6.setCell ⟨pg, 3, none⟩ (.slice (some ⟨g1, 0, none⟩) (j + 1) k1) = W7 at *
          obtain ⟨ba, bc, vs7, e7, hv7, hrw7⟩ := HB7.out.rows.shape
          subst e7
          rw [dRows_length, hlen.out] at hv7
          have hb7 := HB7.out.head
          rw [dRows_length, hlen.out] at hb7
          have c27 : W7.cell? ⟨pg, 2, none⟩ = some (.slice ba j bc) := cell_at hb7 2 _ rfl
          have HL7 : Hid (vs7.length = j) := Lib.hid (by rw [hrw7.len, dRows_length, hlen.out])
          have HV7 := Lib.hid hv7
          have HRW7 := Lib.hid hrw7
          have HB7 : Hid (DPgB W7 pg kd id0 (.slice ba j bc) (.slice (some ⟨g1, 0, none⟩) (j + 1) k1) (dRows ss) (dHas ss ++ [.bool true]) (fun k => ((w.heap.size ≤ k ∧ k < wr.heap.size ∧ k ≠ pg) ∧ k < w5.heap.size) ∨ (w5.heap.size ≤ k ∧ k < W7.heap.size))) := Lib.hid (by
            have := HB7.out
            rw [dRows_length, hlen.out] at this
            exact this)
          have HKx : Hid (∀ x, PgF pg (fun k => (w.heap.size ≤ k ∧ k < wr.heap.size ∧ k ≠ pg) ∧ k < w5.heap.size) x → w.heap.size ≤ x) := Lib.hid fun x e => by
            rcases e with e | e
            · rw [e]; exact hpg
            · exact e.1.1
          have hszB : (vs7.length + 1) * (24 + 1) ≤ 140737488355328 := by rw [HL7.out]; omega
          have hpl7 : pg < W7.heap.size := cell_lt c27
          have hw57 : w.heap.size ≤ w5.heap.size := HKw5.out.size
          clear hv7 hrw7 hb7
          have HKw7 : Hid (Kept Nob w W7) := Lib.hid (HKw5.out.from (Nat.le_refl _) (HK7.out.mono fun x _ e => HKx.out x e))
          have hlr : ((ys.drop at_).take m).length = m := by rw [List.length_take, List.length_drop, HL.out]; omega
          obtain ⟨row, hrow⟩ : ∃ row, (ys.drop at_).take m = row := ⟨_, rfl⟩
          rw [hrow] at HSn hlr
          have HLr : Hid (([] : List Value).length + (row.map (Value.int .u8)).length = m) := Lib.hid (by rw [List.length_map, hlr]; simp)
          have hszR : (([] : List Value).length + (row.map (Value.int .u8)).length) * (1 + 1) ≤ 140737488355328 := by rw [HLr.out]; omega
          have HOne : Hid (∀ u ∈ row.map (Value.int .u8), u.oneCell' = true) := Lib.hid (u8_one row)
          have HEm := Lib.hid (Own.empty_new W7 5)
          have HST : ∀ (b8 : Option Addr) (c8 : Nat) (w8 : World), Own w8 5 (.slice b8 m c8) ([] ++ row.map (Value.int .u8)) (fun k => (Value.slice (some ⟨W7.heap.size, 0, none⟩) 0 0).ownBlock = some k ∨ (W7.alloc (.cells #[] 5)).drew.heap.size ≤ k) → Kept (fun k => (Value.slice (some ⟨W7.heap.size, 0, none⟩) 0 0).ownBlock = some k) (W7.alloc (.cells #[] 5)).drew w8 →
              Hid (w8.cell? ⟨pg, 2, none⟩ = some (.slice ba j bc) ∧ pg < w8.heap.size ∧ Own w8 50 (.slice ba j bc) vs7 (fun k => ((w.heap.size ≤ k ∧ k < wr.heap.size ∧ k ≠ pg) ∧ k < w5.heap.size) ∨ (w5.heap.size ≤ k ∧ k < W7.heap.size)) ∧ RowsAt w8 5 vs7 (dRows ss) (fun k => ((w.heap.size ≤ k ∧ k < wr.heap.size ∧ k ≠ pg) ∧ k < w5.heap.size) ∨ (w5.heap.size ≤ k ∧ k < W7.heap.size)) ∧
                DPgB w8 pg kd id0 (.slice ba j bc) (.slice (some ⟨g1, 0, none⟩) (j + 1) k1) (dRows ss) (dHas ss ++ [.bool true]) (fun k => ((w.heap.size ≤ k ∧ k < wr.heap.size ∧ k ≠ pg) ∧ k < w5.heap.size) ∨ (w5.heap.size ≤ k ∧ k < W7.heap.size)) ∧
                Own w8 5 (.slice b8 m c8) (row.map (Value.int .u8)) (From W7.heap.size) ∧ Kept Nob W7 w8) := fun b8 c8 w8 ho8 hk8 => by
            have kk : Kept Nob W7 w8 := ((Kept.alloc Nob W7 (.cells #[] 5)).trans' (Kept.drew Nob _)).trans hk8 (fun y hy e => by simp [Value.ownBlock] at e; omega)
            have hB8 := HB7.out.kept kk (fun f => f) (fun _ _ f => f)
            rw [List.nil_append] at ho8
            refine Lib.hid ⟨(kk.cell (p := ⟨pg, 2, none⟩) hpl7 (fun f => f)).trans c27, hB8.lt, HV7.out.kept kk (fun _ _ f => f), HRW7.out.kept kk (fun _ _ f => f), hB8, ho8.mono fun y _ e => ?_, kk⟩
            rcases e with e | e
            · simp [Value.ownBlock] at e; show _ ≤ _; omega
            · have e2 : (W7.alloc (.cells #[] 5)).heap.size ≤ y := e
              simp at e2; show _ ≤ _; omega
          have hwa : IntKind.i64.wrap ((at_ : Int) + ((m : Int) + 1)) = (at_ : Int) + ((m : Int) + 1) := IntWalk.i64_in _ ⟨by omega, by omega⟩
          have hwb : IntKind.i64.wrap ((at_ : Int) + ((m : Int) + 1) - 1) = (at_ : Int) + (m : Int) := by
            rw [show (at_ : Int) + ((m : Int) + 1) - 1 = (at_ : Int) + (m : Int) from by omega]; exact IntWalk.i64_in _ ⟨by omega, by omega⟩
          have hia : (at_ : Int) ≤ 512 := by omega
          have hib : (at_ : Int) + (m : Int) ≤ 512 := by omega
          have hic : (at_ : Int) ≤ (at_ : Int) + (m : Int) := by omega
          have hid1 : ((at_ : Int) + (m : Int)).toNat = at_ + m := by omega
          have hid2 : at_ + m - at_ = m := by omega
          have hid3 : (512 : Int) ≤ (vc : Int) := by omega
          have hie : (0 : Int) ≤ (at_ : Int) + (m : Int) := by omega
          have hif : (at_ : Int) + (m : Int) ≤ (vc : Int) := by omega
          by_cases hva : vc = at_
          · have hm0 : m = 0 := by omega
            subst hva hm0
            have hr0 : row = [] := List.eq_nil_of_length_eq_zero hlr
            have HRow : Hid (Reads W7 (.slice (some ⟨vb, vo, none⟩) 0 0) (row.map (Value.int .u8)) Nob) := Lib.hid (by rw [hr0]; exact .inl ⟨rfl, _, 0, rfl, fun h => by cases h⟩)
            clear hrow hlr hr0
            have hv1 : IntKind.i64.wrap ((vc : Int) + 1) = (vc : Int) + 1 := IntWalk.i64_in _ ⟨by omega, by omega⟩
            have hv3 : IntKind.i64.wrap (vc : Int) = (vc : Int) := IntWalk.i64_in _ ⟨by omega, by omega⟩
            have hv2 : IntKind.i64.wrap ((vc : Int) + 1 - 1) = (vc : Int) := by rw [Int.add_sub_cancel]; exact IntWalk.i64_in _ ⟨by omega, by omega⟩
            go_region_law (first
              | (refine step_append_pg rfl _ _ 50 rfl tBytes (.slice (some ⟨W7.heap.size, 0, none⟩) 0 0) (.slice (some ⟨vb, vo, none⟩) 0 0) [] (row.map (Value.int .u8)) (From W7.heap.size) _ rfl rfl HEm.out.drew (HRow.out.alloc _).drew HOne.out hszR ?_; intro b8 c8 w8 ho8 hk8; rw [HLr.out] at ho8 ⊢; have HQ := HST b8 c8 w8 ho8 hk8; have q1 := HQ.out.1; have q2 := HQ.out.2.1; clear ho8 hk8)
              | (refine step_append1_pg rfl _ _ 70 rfl tRows (.slice ba j bc) vs7 (.slice b8 0 c8) _ ⟨w8.heap.size, 0, none⟩ 1 rfl rfl (HQ.out.2.2.1.alloc _) (by simp) rfl (Nat.le_refl _) rfl hszB ?_; intro g2 k2 w9 ho2 hk2; rw [HL7.out] at ho2 ⊢; have c24 := cell_at (HQ.out.2.2.2.2.1.rowsHead hk2) 2 _ rfl; have f24 := frozen_at (HQ.out.2.2.2.2.1.rowsHead hk2) 2; have HG2 := Lib.hid (HQ.out.2.2.2.2.1.growRows HQ.out.2.2.1 HQ.out.2.2.2.1 (G := From W7.heap.size) (fun x e f => by (have f : W7.heap.size ≤ x := f); rcases e with e | e <;> omega) HQ.out.2.2.2.2.2.1 ho2 hk2 (fun f => by (have f : W7.heap.size ≤ pg := f); omega)); clear ho2 hk2))
            all_goals
              have HN2 : Hid (DParseRel w ys pg (j + 1) (w9.setCell ⟨pg, 2, none⟩ (.slice (some ⟨g2, 0, none⟩) (j + 1) k2))) := Lib.hid (by
                have h := HG2.out
                rw [HId.out, ← HK0.out] at h
                refine DParseRel.more HD.out HSn.out (HKw7.out.then HQ.out.2.2.2.2.2.2) h.2 (fun x hx e => ?_) h.1 (fun x e => ?_)
                · rcases e with e | e | e
                  · rw [e]; exact hpg
                  · exact e.1.1
                  · omega
                · rcases e with (e | e) | e | e
                  · exact e.1.1
                  · omega
                  · have e : W7.heap.size ≤ x := e; omega
                  · have := HQ.out.2.2.2.2.2.2.size; omega)
              go_wp2_with fail
              go_roundw
              case rel => exact ⟨j + 1, by omega, by go_num, HN2.out⟩
              case measure => simp [intOf]; omega
          · have HRow : Hid (Reads W7 (.slice (some ⟨vb, vo + at_, none⟩) m (vc - at_)) (row.map (Value.int .u8)) (fun x => x < w.heap.size)) := Lib.hid (by
              rcases Nat.eq_zero_or_pos m with h0 | h0
              · subst h0
                have hr0 : row = [] := List.eq_nil_of_length_eq_zero hlr
                rw [hr0]
                exact .inl ⟨rfl, _, _, rfl, fun h => by cases h⟩
              · have h1 := (H.out.kept HKw7.out (fun _ _ f => f)).dropped at_ (by rw [List.length_map, HL.out]; omega)
                have h2 := h1.take m (by rw [List.length_drop, List.length_map, HL.out]; omega) (by rw [List.length_drop, List.length_map, HL.out]; omega)
                rw [← List.map_drop, ← List.map_take, hrow] at h2
                exact h2)
            have hva' : ¬ at_ = vc := fun e => hva e.symm
            clear hrow hlr
            go_region_law (first
              | (refine step_append_pg rfl _ _ 50 rfl tBytes (.slice (some ⟨W7.heap.size, 0, none⟩) 0 0) (.slice (some ⟨vb, vo + at_, none⟩) m (vc - at_)) [] (row.map (Value.int .u8)) (From W7.heap.size) _ rfl rfl HEm.out.drew (HRow.out.alloc _).drew HOne.out hszR ?_; intro b8 c8 w8 ho8 hk8; rw [HLr.out] at ho8 ⊢; have HQ := HST b8 c8 w8 ho8 hk8; have q1 := HQ.out.1; have q2 := HQ.out.2.1; clear ho8 hk8)
              | (refine step_append1_pg rfl _ _ 70 rfl tRows (.slice ba j bc) vs7 (.slice b8 m c8) _ ⟨w8.heap.size, 0, none⟩ 1 rfl rfl (HQ.out.2.2.1.alloc _) (by simp) rfl (Nat.le_refl _) rfl hszB ?_; intro g2 k2 w9 ho2 hk2; rw [HL7.out] at ho2 ⊢; have c24 := cell_at (HQ.out.2.2.2.2.1.rowsHead hk2) 2 _ rfl; have f24 := frozen_at (HQ.out.2.2.2.2.1.rowsHead hk2) 2; have HG2 := Lib.hid (HQ.out.2.2.2.2.1.growRows HQ.out.2.2.1 HQ.out.2.2.2.1 (G := From W7.heap.size) (fun x e f => by (have f : W7.heap.size ≤ x := f); rcases e with e | e <;> omega) HQ.out.2.2.2.2.2.1 ho2 hk2 (fun f => by (have f : W7.heap.size ≤ pg := f); omega)); clear ho2 hk2))
            all_goals
              have HN2 : Hid (DParseRel w ys pg (j + 1) (w9.setCell ⟨pg, 2, none⟩ (.slice (some ⟨g2, 0, none⟩) (j + 1) k2))) := Lib.hid (by
                have h := HG2.out
                rw [HId.out, ← HK0.out] at h
                refine DParseRel.more HD.out HSn.out (HKw7.out.then HQ.out.2.2.2.2.2.2) h.2 (fun x hx e => ?_) h.1 (fun x e => ?_)
                · rcases e with e | e | e
                  · rw [e]; exact hpg
                  · exact e.1.1
                  · omega
                · rcases e with (e | e) | e | e
                  · exact e.1.1
                  · omega
                  · have e : W7.heap.size ≤ x := e; omega
                  · have := HQ.out.2.2.2.2.2.2.size; omega)
              go_wp2_with fail
              go_roundw
              case rel => exact ⟨j + 1, by omega, by go_num, HN2.out⟩
              case measure => simp [intOf]; omega
    · have hje : j = n := by omega
      subst hje
      clear hplr
      have hz : Sized ss := ⟨by rw [hlen.out]; exact hn60, fun s hs => Nat.le_trans (decSlots_sized j ss HD.out s hs) (by omega)⟩
      have hDP : ∀ W, Kept Nob wr W → DPgAt W pg ⟨kd, id0, ss⟩ (fun x => w.heap.size ≤ x ∧ x < wr.heap.size ∧ x ≠ pg) := fun W q => (HP.out.kept q (fun f => f) (fun _ _ f => f)).whole
      have hPo : parseOf ys = if pageMay ys ss then some (pageOf ys ss) else none := by
        unfold parseOf
        rw [if_neg (by rw [← HN.out]; omega), show (ys.getD 1 0).toNat = j from by rw [← HN.out]; rfl, HD.out]
        rfl
      have hpe : pageOf ys ss = ⟨kd, id0, ss⟩ := by unfold pageOf; rw [HK0.out, ← HId.out]
      have HU := Lib.hid fun (W : World) (q : Kept Nob wr W) => dpage_used W pg ⟨kd, id0, ss⟩ _ (hDP W q) (by have := hz.1; show ss.length ≤ 1000; omega) (fun s hs => by have := hz.2 s hs; omega)
      have hidr : 0 ≤ id0 ∧ id0 < 4294967296 := by
        have h1 := HB.out.g16 2
        have h2 := HB.out.g16 4
        rw [HId.out]; omega
      have HDP := Lib.hid hDP
      have HPo := Lib.hid hPo
      have HPe := Lib.hid hpe
      have HSd := Lib.hid hz
      have HCv : Hid (∀ W, Kept Nob w W → (convert 50 9 (.slice (some ⟨vb, vo, none⟩) 512 vc)).run Tryz.prog W = .ok (.string (strOfNums ys)) W) := Lib.hid fun W q =>
        run_convert_bytes_arg W 50 5 Tryz.underlying50 Tryz.underlying5 vb vo 512 vc ys HL.out (fun i hi => (q.cell (p := ⟨vb, vo + i, none⟩) hvb (fun f => f)).trans (HC.out i hi)) _ Tryz.underlying9
      have hul := usedOf_le hz
      clear hDP hPo hpe hz
      have hbw := HP.out.head
      obtain ⟨ha, hc, rfl, -⟩ := HP.out.has.reads.shape
      rw [dHas_length, hlen.out] at hbw
      have HHd : Hid (∀ W, Kept Nob wr W → W.cell? ⟨pg, 3, none⟩ = some (.slice ha j hc)) := Lib.hid fun W q => cell_at ((q.block pg HP.out.lt (fun f => f)).trans hbw) 3 _ rfl
      have HOh : Hid (Own wr 4 (.slice ha j hc) (dHas ss) (fun x => w.heap.size ≤ x ∧ x < wr.heap.size ∧ x ≠ pg)) := Lib.hid (by
        have := HP.out.has
        rw [dHas_length, hlen.out] at this
        exact this)
      have HPg : Hid (∀ W, Kept Nob wr W → parseOf ys = some ⟨kd, id0, ss⟩ → RetDParse w ys (.returned (.tuple #[.pointer (some ⟨pg, 0, none⟩), .int .i64 0])) W) := Lib.hid fun W q hp =>
        RetDParse.yes hp (HKw.out.then q) hpg ((HDP.out W q).mono (fun x hx hr => ⟨hr.1, hx, hr.2.2⟩) (fun e => e.2.2 rfl))
      clear hbw
      by_cases hu : 512 < usedOf ss
      · have HNo : Hid (parseOf ys = none) := Lib.hid (by
          rw [HPo.out, if_neg]
          unfold pageMay
          rw [show decide (usedOf ss ≤ 512) = false from decide_eq_false (by omega)]
          simp)
        have hd1 : decide ((512 : Int) < (usedOf ss : Int)) = true := decide_eq_true (by omega)
        generalize usedOf ss = u at *
        go_wp2_with fail
        refine wp_region_held_drew (S := fun W => Kept Nob wr W) (by kernel_rfl) ?_ (fun hHeld => ?_)
        · exact Kept.drew _ _
        refine take_in (v := ?_) 0 (some 104) ?_ ?_
        case refine_2 => intro w hSw; go_simp; try with_reducible rfl
        try simp only [putS]
        refine wpAnyH_ready (rs := [1]) (by kernel_rfl) (by simp) ?_
        refine AllReadyH.cons (o := _) rfl (fun K hK => ?_) AllReadyH.nil
        go_simp
        go_at_call 97; (with_reducible refine (HU.out _ hHeld).mono ?_); rintro e w6 ⟨rfl, rfl⟩
        try go_wp2_with fail
        refine hK.out _ _ (hHeld) (fun hHeld => ?_)
        clear hK K
        try simp only [putS]
        refine take_in (v := ?_) 2 (some 106) ?_ ?_
        case refine_2 => intro w hSw; go_simp; try with_reducible rfl
        try simp only [putS]
        refine take_in (v := ?_) 3 (some 107) ?_ ?_
        case refine_2 => intro w hSw; go_simp; try with_reducible rfl
        try simp only [putS]
        refine take_no 4 (some 108) ?_
        try simp only [putS]
        refine take_no 5 (some 109) ?_
        try simp only [putS]
        refine take_no 6 (some 110) ?_
        try simp only [putS]
        refine take_no 7 (some 111) ?_
        try simp only [putS]
        refine take_no 8 (some 112) ?_
        try simp only [putS]
        refine take_no 9 (some 113) ?_
        try simp only [putS]
        refine take_in (v := ?_) 10 (some 114) ?_ ?_
        case refine_2 => intro w hSw; go_simp; try with_reducible rfl
        try simp only [putS]
        refine take_in (v := ?_) 11 (some 115) ?_ ?_
        case refine_2 => intro w hSw; go_simp; try with_reducible rfl
        try simp only [putS]
        refine take_no 12 (some 116) ?_
        try simp only [putS]
        refine take_no 13 (some 117) ?_
        try simp only [putS]
        refine take_no 14 (some 118) ?_
        try simp only [putS]
        refine take_no 15 (some 119) ?_
        try simp only [putS]
        refine take_no 16 (some 120) ?_
        try simp only [putS]
        refine take_no 17 (some 121) ?_
        try simp only [putS]
        refine take_no 18 (some 122) ?_
        try simp only [putS]
        refine take_no 19 (some 123) ?_
        try simp only [putS]
        refine take_no 20 (some 124) ?_
        try simp only [putS]
        refine take_no 21 (some 125) ?_
        try simp only [putS]
        refine take_no 22 (some 126) ?_
        try simp only [putS]
        refine take_no 23 (some 127) ?_
        try simp only [putS]
        refine take_no 24 (some 128) ?_
        try simp only [putS]
        refine take_no 25 (some 129) ?_
        try simp only [putS]
        refine take_no 26 (some 130) ?_
        try simp only [putS]
        refine take_no 27 (some 131) ?_
        try simp only [putS]
        refine take_no 28 (some 132) ?_
        try simp only [putS]
        refine take_no 29 (some 133) ?_
        try simp only [putS]
        refine take_no 30 (some 134) ?_
        try simp only [putS]
        refine take_no 31 (some 135) ?_
        try simp only [putS]
        refine take_no 32 (some 136) ?_
        try simp only [putS]
        refine take_in (v := ?_) 33 (some 137) ?_ ?_
        case refine_2 => intro w hSw; go_simp; try with_reducible rfl
        try simp only [putS]
        refine wpAnyH_done (by kernel_rfl) ?_ _
        go_wp2_with fail
        go_ret2
        exact RetDParse.no HNo.out (HKw.out.then hHeld)
      · have hu2 : usedOf ss ≤ 512 := by omega
        have hd1 : decide ((512 : Int) < (usedOf ss : Int)) = false := decide_eq_false (by omega)
        have HBy := Lib.hid fun (W : World) (q : Kept Nob wr W) => dpage_bytes W pg ⟨kd, id0, ss⟩ _ (HDP.out W q) HSd.out hu2 hidr
        have hbl := bytesOf_length ⟨kd, id0, ss⟩ hu2
        have HCb : Hid (∀ (W : World) (g : Nat) (G : Nat → Prop), BytesAt W g 512 512 (bytesOf ⟨kd, id0, ss⟩) G → (convert 50 9 (.slice (some ⟨g, 0, none⟩) 512 512)).run Tryz.prog W = .ok (.string (strOfNums (bytesOf ⟨kd, id0, ss⟩))) W) := Lib.hid fun W g G hb =>
          run_convert_bytes_arg W 50 5 Tryz.underlying50 Tryz.underlying5 g 0 512 512 _ hbl (fun i hi => by
            have := hb.cell i _ (by rw [List.getElem?_map, List.getElem?_eq_getElem (by rw [hbl]; exact hi)]; rfl)
            rw [Nat.zero_add, this, List.getD_eq_getElem?_getD, List.getElem?_eq_getElem (by rw [hbl]; exact hi)]; rfl) _ Tryz.underlying9
        have hpm : parseOf ys = if (!(ss.getLast? == some none) && decide (bytesOf ⟨kd, id0, ss⟩ = ys)) = true then some ⟨kd, id0, ss⟩ else none := by
          rw [HPo.out]
          unfold pageMay
          rw [HPe.out, show decide (usedOf ss ≤ 512) = true from decide_eq_true hu2, Bool.and_true]
        have HPm := Lib.hid hpm
        have hib : InB (bytesOf ⟨kd, id0, ss⟩) := bytesOf_inB _ (fun b hb => decSlots_inB HB.out j ss HD.out b hb)
        have hinj : (strOfNums (bytesOf ⟨kd, id0, ss⟩)).toList = (strOfNums ys).toList → bytesOf ⟨kd, id0, ss⟩ = ys := strOfNums_inj hib HB.out
        have HInj := Lib.hid hinj
        clear hpm hbl hib hinj hul hu
        by_cases he : bytesOf ⟨kd, id0, ss⟩ = ys
        · rw [he] at HBy HCb
          clear HInj
          have HPm2 : Hid (parseOf ys = if (!(ss.getLast? == some none)) = true then some ⟨kd, id0, ss⟩ else none) := Lib.hid (by rw [HPm.out, show decide (bytesOf ⟨kd, id0, ss⟩ = ys) = true from decide_eq_true he, Bool.and_true])
          clear he HPm
          generalize hs1 : strOfNums ys = s1 at *
          clear hs1
          generalize usedOf ss = u at *
          rcases Nat.eq_zero_or_pos j with hj0 | hj0
          · subst hj0
            have HYe : Hid (parseOf ys = some ⟨kd, id0, ss⟩) := Lib.hid (by
              rw [HPm2.out, List.eq_nil_of_length_eq_zero hlen.out]; rfl)
            go_wp2_with fail
            refine wp_region_held_drew (S := fun W => Kept Nob wr W) (by kernel_rfl) ?_ (fun hHeld => ?_)
            · exact Kept.drew _ _
            refine take_in (v := ?_) 0 (some 104) ?_ ?_
            case refine_2 => intro w hSw; go_simp; try with_reducible rfl
            try simp only [putS]
            refine wpAnyH_ready (rs := [1]) (by kernel_rfl) (by simp) ?_
            refine AllReadyH.cons (o := _) rfl (fun K hK => ?_) AllReadyH.nil
            go_simp
            go_at_call 97; (with_reducible refine (HU.out _ hHeld).mono ?_); rintro e w6 ⟨rfl, rfl⟩
            try go_wp2_with fail
            refine hK.out _ _ (hHeld) (fun hHeld => ?_)
            clear hK K
            try simp only [putS]
            refine take_in (v := ?_) 2 (some 106) ?_ ?_
            case refine_2 => intro w hSw; go_simp; try with_reducible rfl
            try simp only [putS]
            refine take_in (v := ?_) 3 (some 107) ?_ ?_
            case refine_2 => intro w hSw; go_simp; try with_reducible rfl
            try simp only [putS]
            refine take_in (v := ?_) 4 (some 108) ?_ ?_
            case refine_2 => intro w hSw; go_simp; try with_reducible rfl
            try simp only [putS]
            refine take_in (v := ?_) 7 (some 111) ?_ ?_
            case refine_2 => intro w hSw; go_simp; try with_reducible rfl
            try simp only [putS]
            refine take_in (v := ?_) 8 (some 112) ?_ ?_
            case refine_2 => (intro w hSw; (try dsimp only at hSw); have hcv := HCv.out _ (HKw.out.then hSw); go_simp; try with_reducible rfl)
            try simp only [putS]
            refine wpAnyH_ready (rs := [5]) (by kernel_rfl) (by simp) ?_
            refine AllReadyH.cons (o := _) rfl (fun K hK => ?_) AllReadyH.nil
            go_simp
            go_at_call 52; (with_reducible refine (HBy.out _ hHeld).mono ?_); rintro e w6 ⟨g6, rfl, hb6, hk6⟩; have HB6 := Lib.hid hb6; have HK6 := Lib.hid (hHeld.then hk6); clear hb6 hk6
            try go_wp2_with fail
            refine hK.out _ _ (HK6.out) (fun hHeld => ?_)
            clear hK K
            try simp only [putS]
            refine wpAnyH_ready (rs := [6]) (by kernel_rfl) (by simp) ?_
            refine AllReadyH.cons (o := _) rfl (fun K hK => ?_) AllReadyH.nil
            have hcv6 := HCb.out _ _ _ HB6.out
            go_simp
            clear hcv6
            refine hK.out _ _ (hHeld) (fun hHeld => ?_)
            clear hK K
            try simp only [putS]
            refine take_in (v := ?_) 9 (some 113) ?_ ?_
            case refine_2 => intro w hSw; go_simp; try with_reducible rfl
            try simp only [putS]
            refine take_in (v := ?_) 10 (some 114) ?_ ?_
            case refine_2 => intro w hSw; go_simp; try with_reducible rfl
            try simp only [putS]
            refine take_in (v := ?_) 11 (some 115) ?_ ?_
            case refine_2 => intro w hSw; go_simp; try with_reducible rfl
            try simp only [putS]
            refine take_in (v := ?_) 12 (some 116) ?_ ?_
            case refine_2 => intro w hSw; go_simp; try with_reducible rfl
            try simp only [putS]
            refine take_in (v := ?_) 13 (some 117) ?_ ?_
            case refine_2 => intro w hSw; go_simp; try with_reducible rfl
            try simp only [putS]
            refine take_in (v := ?_) 14 (some 118) ?_ ?_
            case refine_2 => intro w hSw; go_simp; try with_reducible rfl
            try simp only [putS]
            refine take_in (v := ?_) 15 (some 119) ?_ ?_
            case refine_2 => (intro w hSw; (try dsimp only at hSw); have c3 := HHd.out _ hSw; go_simp; try with_reducible rfl)
            try simp only [putS]
            refine take_in (v := ?_) 16 (some 120) ?_ ?_
            case refine_2 => intro w hSw; go_simp; try with_reducible rfl
            try simp only [putS]
            refine take_in (v := ?_) 17 (some 121) ?_ ?_
            case refine_2 => intro w hSw; go_simp; try with_reducible rfl
            try simp only [putS]
            refine take_in (v := ?_) 18 (some 122) ?_ ?_
            case refine_2 => intro w hSw; go_simp; try with_reducible rfl
            try simp only [putS]
            refine take_no 19 (some 123) ?_
            try simp only [putS]
            refine take_no 20 (some 124) ?_
            try simp only [putS]
            refine take_no 21 (some 125) ?_
            try simp only [putS]
            refine take_no 22 (some 126) ?_
            try simp only [putS]
            refine take_no 23 (some 127) ?_
            try simp only [putS]
            refine take_no 24 (some 128) ?_
            try simp only [putS]
            refine take_no 25 (some 129) ?_
            try simp only [putS]
            refine take_no 26 (some 130) ?_
            try simp only [putS]
            refine take_no 27 (some 131) ?_
            try simp only [putS]
            refine take_no 28 (some 132) ?_
            try simp only [putS]
            refine take_no 29 (some 133) ?_
            try simp only [putS]
            refine take_no 30 (some 134) ?_
            try simp only [putS]
            refine take_no 31 (some 135) ?_
            try simp only [putS]
            refine take_in (v := ?_) 32 (some 136) ?_ ?_
            case refine_2 => intro w hSw; go_simp; try with_reducible rfl
            try simp only [putS]
            refine take_in (v := ?_) 33 (some 137) ?_ ?_
            case refine_2 => intro w hSw; go_simp; try with_reducible rfl
            try simp only [putS]
            refine wpAnyH_done (by kernel_rfl) ?_ _
            go_wp2_with fail
            go_ret2
            exact HPg.out _ hHeld HYe.out
          · obtain ⟨q, rfl⟩ : ∃ q, j = q + 1 := ⟨j - 1, by omega⟩
            obtain ⟨gh, e, -⟩ := HOh.out.addr (by omega)
            subst e
            have hqs : q < ss.length := by rw [hlen.out]; omega
            have hgl : ss.getLast? = some ss[q] := by
              rw [List.getLast?_eq_getElem?, hlen.out, Nat.add_sub_cancel, List.getElem?_eq_getElem hqs]
            have HLc : Hid (∀ W, Kept Nob wr W → W.cell? ⟨gh, q, none⟩ = some (.bool ss[q].isSome)) := Lib.hid fun W k => (HOh.out.kept k (fun _ _ f => f)).cell q _ (by
              rw [dHas, List.getElem?_map, List.getElem?_eq_getElem hqs]; rfl)
            have HGl := Lib.hid hgl
            clear hgl
            have hwq : IntKind.i64.wrap (q : Int) = (q : Int) := IntWalk.i64_in _ ⟨by omega, by omega⟩
            have hq1 : (q : Int) < (q : Int) + 1 := by omega
            cases hsq : ss[q] with
            | none =>
              rw [hsq] at HLc HGl
              have HNo : Hid (parseOf ys = none) := Lib.hid (by rw [HPm2.out, HGl.out]; rfl)
              simp only [Option.isSome] at HLc
              clear hsq hqs HGl
              go_wp2_with fail
              refine wp_region_held_drew (S := fun W => Kept Nob wr W) (by kernel_rfl) ?_ (fun hHeld => ?_)
              · exact Kept.drew _ _
              refine take_in (v := ?_) 0 (some 104) ?_ ?_
              case refine_2 => intro w hSw; go_simp; try with_reducible rfl
              try simp only [putS]
              refine wpAnyH_ready (rs := [1]) (by kernel_rfl) (by simp) ?_
              refine AllReadyH.cons (o := _) rfl (fun K hK => ?_) AllReadyH.nil
              go_simp
              go_at_call 97; (with_reducible refine (HU.out _ hHeld).mono ?_); rintro e w6 ⟨rfl, rfl⟩
              try go_wp2_with fail
              refine hK.out _ _ (hHeld) (fun hHeld => ?_)
              clear hK K
              try simp only [putS]
              refine take_in (v := ?_) 2 (some 106) ?_ ?_
              case refine_2 => intro w hSw; go_simp; try with_reducible rfl
              try simp only [putS]
              refine take_in (v := ?_) 3 (some 107) ?_ ?_
              case refine_2 => intro w hSw; go_simp; try with_reducible rfl
              try simp only [putS]
              refine take_in (v := ?_) 4 (some 108) ?_ ?_
              case refine_2 => intro w hSw; go_simp; try with_reducible rfl
              try simp only [putS]
              refine take_in (v := ?_) 7 (some 111) ?_ ?_
              case refine_2 => intro w hSw; go_simp; try with_reducible rfl
              try simp only [putS]
              refine take_in (v := ?_) 8 (some 112) ?_ ?_
              case refine_2 => (intro w hSw; (try dsimp only at hSw); have hcv := HCv.out _ (HKw.out.then hSw); go_simp; try with_reducible rfl)
              try simp only [putS]
              refine wpAnyH_ready (rs := [5]) (by kernel_rfl) (by simp) ?_
              refine AllReadyH.cons (o := _) rfl (fun K hK => ?_) AllReadyH.nil
              go_simp
              go_at_call 52; (with_reducible refine (HBy.out _ hHeld).mono ?_); rintro e w6 ⟨g6, rfl, hb6, hk6⟩; have HB6 := Lib.hid hb6; have HK6 := Lib.hid (hHeld.then hk6); clear hb6 hk6
              try go_wp2_with fail
              refine hK.out _ _ (HK6.out) (fun hHeld => ?_)
              clear hK K
              try simp only [putS]
              refine wpAnyH_ready (rs := [6]) (by kernel_rfl) (by simp) ?_
              refine AllReadyH.cons (o := _) rfl (fun K hK => ?_) AllReadyH.nil
              have hcv6 := HCb.out _ _ _ HB6.out
              go_simp
              clear hcv6
              refine hK.out _ _ (hHeld) (fun hHeld => ?_)
              clear hK K
              try simp only [putS]
              refine take_in (v := ?_) 9 (some 113) ?_ ?_
              case refine_2 => intro w hSw; go_simp; try with_reducible rfl
              try simp only [putS]
              refine take_in (v := ?_) 10 (some 114) ?_ ?_
              case refine_2 => intro w hSw; go_simp; try with_reducible rfl
              try simp only [putS]
              refine take_in (v := ?_) 11 (some 115) ?_ ?_
              case refine_2 => intro w hSw; go_simp; try with_reducible rfl
              try simp only [putS]
              refine take_in (v := ?_) 12 (some 116) ?_ ?_
              case refine_2 => intro w hSw; go_simp; try with_reducible rfl
              try simp only [putS]
              refine take_in (v := ?_) 13 (some 117) ?_ ?_
              case refine_2 => intro w hSw; go_simp; try with_reducible rfl
              try simp only [putS]
              refine take_in (v := ?_) 14 (some 118) ?_ ?_
              case refine_2 => intro w hSw; go_simp; try with_reducible rfl
              try simp only [putS]
              refine take_in (v := ?_) 15 (some 119) ?_ ?_
              case refine_2 => (intro w hSw; (try dsimp only at hSw); have c3 := HHd.out _ hSw; go_simp; try with_reducible rfl)
              try simp only [putS]
              refine take_in (v := ?_) 16 (some 120) ?_ ?_
              case refine_2 => intro w hSw; go_simp; try with_reducible rfl
              try simp only [putS]
              refine take_in (v := ?_) 17 (some 121) ?_ ?_
              case refine_2 => intro w hSw; go_simp; try with_reducible rfl
              try simp only [putS]
              refine take_in (v := ?_) 18 (some 122) ?_ ?_
              case refine_2 => intro w hSw; go_simp; try with_reducible rfl
              try simp only [putS]
              refine take_in (v := ?_) 19 (some 123) ?_ ?_
              case refine_2 => intro w hSw; go_simp; try with_reducible rfl
              try simp only [putS]
              refine take_in (v := ?_) 20 (some 124) ?_ ?_
              case refine_2 => intro w hSw; go_simp; try with_reducible rfl
              try simp only [putS]
              refine take_in (v := ?_) 21 (some 125) ?_ ?_
              case refine_2 => intro w hSw; go_simp; try with_reducible rfl
              try simp only [putS]
              refine take_in (v := ?_) 22 (some 126) ?_ ?_
              case refine_2 => (intro w hSw; (try dsimp only at hSw); have c3 := HHd.out _ hSw; go_simp; try with_reducible rfl)
              try simp only [putS]
              refine take_in (v := ?_) 23 (some 127) ?_ ?_
              case refine_2 => intro w hSw; go_simp; try with_reducible rfl
              try simp only [putS]
              refine take_in (v := ?_) 24 (some 128) ?_ ?_
              case refine_2 => intro w hSw; go_simp; try with_reducible rfl
              try simp only [putS]
              refine take_in (v := ?_) 25 (some 129) ?_ ?_
              case refine_2 => intro w hSw; go_simp; try with_reducible rfl
              try simp only [putS]
              refine take_in (v := ?_) 26 (some 130) ?_ ?_
              case refine_2 => (intro w hSw; (try dsimp only at hSw); have c3 := HHd.out _ hSw; go_simp; try with_reducible rfl)
              try simp only [putS]
              refine take_in (v := ?_) 27 (some 131) ?_ ?_
              case refine_2 => intro w hSw; go_simp; try with_reducible rfl
              try simp only [putS]
              refine take_in (v := ?_) 28 (some 132) ?_ ?_
              case refine_2 => intro w hSw; go_simp; try with_reducible rfl
              try simp only [putS]
              refine take_in (v := ?_) 29 (some 133) ?_ ?_
              case refine_2 => intro w hSw; go_simp; try with_reducible rfl
              try simp only [putS]
              refine take_in (v := ?_) 30 (some 134) ?_ ?_
              case refine_2 => (intro w hSw; (try dsimp only at hSw); have c4 := HLc.out _ hSw; go_simp; try with_reducible rfl)
              try simp only [putS]
              refine take_in (v := ?_) 31 (some 135) ?_ ?_
              case refine_2 => intro w hSw; go_simp; try with_reducible rfl
              try simp only [putS]
              refine take_in (v := ?_) 32 (some 136) ?_ ?_
              case refine_2 => intro w hSw; go_simp; try with_reducible rfl
              try simp only [putS]
              refine take_in (v := ?_) 33 (some 137) ?_ ?_
              case refine_2 => intro w hSw; go_simp; try with_reducible rfl
              try simp only [putS]
              refine wpAnyH_done (by kernel_rfl) ?_ _
              go_wp2_with fail
              go_ret2
              exact RetDParse.no HNo.out (HKw.out.then hHeld)
            | some b =>
              rw [hsq] at HLc HGl
              have HYe : Hid (parseOf ys = some ⟨kd, id0, ss⟩) := Lib.hid (by rw [HPm2.out, HGl.out]; rfl)
              simp only [Option.isSome] at HLc
              clear hsq hqs HGl
              go_wp2_with fail
              refine wp_region_held_drew (S := fun W => Kept Nob wr W) (by kernel_rfl) ?_ (fun hHeld => ?_)
              · exact Kept.drew _ _
              refine take_in (v := ?_) 0 (some 104) ?_ ?_
              case refine_2 => intro w hSw; go_simp; try with_reducible rfl
              try simp only [putS]
              refine wpAnyH_ready (rs := [1]) (by kernel_rfl) (by simp) ?_
              refine AllReadyH.cons (o := _) rfl (fun K hK => ?_) AllReadyH.nil
              go_simp
              go_at_call 97; (with_reducible refine (HU.out _ hHeld).mono ?_); rintro e w6 ⟨rfl, rfl⟩
              try go_wp2_with fail
              refine hK.out _ _ (hHeld) (fun hHeld => ?_)
              clear hK K
              try simp only [putS]
              refine take_in (v := ?_) 2 (some 106) ?_ ?_
              case refine_2 => intro w hSw; go_simp; try with_reducible rfl
              try simp only [putS]
              refine take_in (v := ?_) 3 (some 107) ?_ ?_
              case refine_2 => intro w hSw; go_simp; try with_reducible rfl
              try simp only [putS]
              refine take_in (v := ?_) 4 (some 108) ?_ ?_
              case refine_2 => intro w hSw; go_simp; try with_reducible rfl
              try simp only [putS]
              refine take_in (v := ?_) 7 (some 111) ?_ ?_
              case refine_2 => intro w hSw; go_simp; try with_reducible rfl
              try simp only [putS]
              refine take_in (v := ?_) 8 (some 112) ?_ ?_
              case refine_2 => (intro w hSw; (try dsimp only at hSw); have hcv := HCv.out _ (HKw.out.then hSw); go_simp; try with_reducible rfl)
              try simp only [putS]
              refine wpAnyH_ready (rs := [5]) (by kernel_rfl) (by simp) ?_
              refine AllReadyH.cons (o := _) rfl (fun K hK => ?_) AllReadyH.nil
              go_simp
              go_at_call 52; (with_reducible refine (HBy.out _ hHeld).mono ?_); rintro e w6 ⟨g6, rfl, hb6, hk6⟩; have HB6 := Lib.hid hb6; have HK6 := Lib.hid (hHeld.then hk6); clear hb6 hk6
              try go_wp2_with fail
              refine hK.out _ _ (HK6.out) (fun hHeld => ?_)
              clear hK K
              try simp only [putS]
              refine wpAnyH_ready (rs := [6]) (by kernel_rfl) (by simp) ?_
              refine AllReadyH.cons (o := _) rfl (fun K hK => ?_) AllReadyH.nil
              have hcv6 := HCb.out _ _ _ HB6.out
              go_simp
              clear hcv6
              refine hK.out _ _ (hHeld) (fun hHeld => ?_)
              clear hK K
              try simp only [putS]
              refine take_in (v := ?_) 9 (some 113) ?_ ?_
              case refine_2 => intro w hSw; go_simp; try with_reducible rfl
              try simp only [putS]
              refine take_in (v := ?_) 10 (some 114) ?_ ?_
              case refine_2 => intro w hSw; go_simp; try with_reducible rfl
              try simp only [putS]
              refine take_in (v := ?_) 11 (some 115) ?_ ?_
              case refine_2 => intro w hSw; go_simp; try with_reducible rfl
              try simp only [putS]
              refine take_in (v := ?_) 12 (some 116) ?_ ?_
              case refine_2 => intro w hSw; go_simp; try with_reducible rfl
              try simp only [putS]
              refine take_in (v := ?_) 13 (some 117) ?_ ?_
              case refine_2 => intro w hSw; go_simp; try with_reducible rfl
              try simp only [putS]
              refine take_in (v := ?_) 14 (some 118) ?_ ?_
              case refine_2 => intro w hSw; go_simp; try with_reducible rfl
              try simp only [putS]
              refine take_in (v := ?_) 15 (some 119) ?_ ?_
              case refine_2 => (intro w hSw; (try dsimp only at hSw); have c3 := HHd.out _ hSw; go_simp; try with_reducible rfl)
              try simp only [putS]
              refine take_in (v := ?_) 16 (some 120) ?_ ?_
              case refine_2 => intro w hSw; go_simp; try with_reducible rfl
              try simp only [putS]
              refine take_in (v := ?_) 17 (some 121) ?_ ?_
              case refine_2 => intro w hSw; go_simp; try with_reducible rfl
              try simp only [putS]
              refine take_in (v := ?_) 18 (some 122) ?_ ?_
              case refine_2 => intro w hSw; go_simp; try with_reducible rfl
              try simp only [putS]
              refine take_in (v := ?_) 19 (some 123) ?_ ?_
              case refine_2 => intro w hSw; go_simp; try with_reducible rfl
              try simp only [putS]
              refine take_in (v := ?_) 20 (some 124) ?_ ?_
              case refine_2 => intro w hSw; go_simp; try with_reducible rfl
              try simp only [putS]
              refine take_in (v := ?_) 21 (some 125) ?_ ?_
              case refine_2 => intro w hSw; go_simp; try with_reducible rfl
              try simp only [putS]
              refine take_in (v := ?_) 22 (some 126) ?_ ?_
              case refine_2 => (intro w hSw; (try dsimp only at hSw); have c3 := HHd.out _ hSw; go_simp; try with_reducible rfl)
              try simp only [putS]
              refine take_in (v := ?_) 23 (some 127) ?_ ?_
              case refine_2 => intro w hSw; go_simp; try with_reducible rfl
              try simp only [putS]
              refine take_in (v := ?_) 24 (some 128) ?_ ?_
              case refine_2 => intro w hSw; go_simp; try with_reducible rfl
              try simp only [putS]
              refine take_in (v := ?_) 25 (some 129) ?_ ?_
              case refine_2 => intro w hSw; go_simp; try with_reducible rfl
              try simp only [putS]
              refine take_in (v := ?_) 26 (some 130) ?_ ?_
              case refine_2 => (intro w hSw; (try dsimp only at hSw); have c3 := HHd.out _ hSw; go_simp; try with_reducible rfl)
              try simp only [putS]
              refine take_in (v := ?_) 27 (some 131) ?_ ?_
              case refine_2 => intro w hSw; go_simp; try with_reducible rfl
              try simp only [putS]
              refine take_in (v := ?_) 28 (some 132) ?_ ?_
              case refine_2 => intro w hSw; go_simp; try with_reducible rfl
              try simp only [putS]
              refine take_in (v := ?_) 29 (some 133) ?_ ?_
              case refine_2 => intro w hSw; go_simp; try with_reducible rfl
              try simp only [putS]
              refine take_in (v := ?_) 30 (some 134) ?_ ?_
              case refine_2 => (intro w hSw; (try dsimp only at hSw); have c4 := HLc.out _ hSw; go_simp; try with_reducible rfl)
              try simp only [putS]
              refine take_in (v := ?_) 31 (some 135) ?_ ?_
              case refine_2 => intro w hSw; go_simp; try with_reducible rfl
              try simp only [putS]
              refine take_in (v := ?_) 32 (some 136) ?_ ?_
              case refine_2 => intro w hSw; go_simp; try with_reducible rfl
              try simp only [putS]
              refine take_in (v := ?_) 33 (some 137) ?_ ?_
              case refine_2 => intro w hSw; go_simp; try with_reducible rfl
              try simp only [putS]
              refine wpAnyH_done (by kernel_rfl) ?_ _
              go_wp2_with fail
              go_ret2
              exact HPg.out _ hHeld HYe.out
        · have HNo : Hid (parseOf ys = none) := Lib.hid (by
            rw [HPm.out, if_neg]
            rw [decide_eq_false he]
            simp)
          have hst : ¬ (strOfNums (bytesOf ⟨kd, id0, ss⟩)).toList = (strOfNums ys).toList := fun e => he (HInj.out e)
          have hsb1 : ((strOfNums (bytesOf ⟨kd, id0, ss⟩)).toList == (strOfNums ys).toList) = false := by simpa using hst
          clear he HInj hst
          generalize strOfNums ys = s1 at *
          generalize strOfNums (bytesOf ⟨kd, id0, ss⟩) = s2 at *
          generalize usedOf ss = u at *
          go_wp2_with fail
          refine wp_region_held_drew (S := fun W => Kept Nob wr W) (by kernel_rfl) ?_ (fun hHeld => ?_)
          · exact Kept.drew _ _
          refine take_in (v := ?_) 0 (some 104) ?_ ?_
          case refine_2 => intro w hSw; go_simp; try with_reducible rfl
          try simp only [putS]
          refine wpAnyH_ready (rs := [1]) (by kernel_rfl) (by simp) ?_
          refine AllReadyH.cons (o := _) rfl (fun K hK => ?_) AllReadyH.nil
          go_simp
          go_at_call 97; (with_reducible refine (HU.out _ hHeld).mono ?_); rintro e w6 ⟨rfl, rfl⟩
          try go_wp2_with fail
          refine hK.out _ _ (hHeld) (fun hHeld => ?_)
          clear hK K
          try simp only [putS]
          refine take_in (v := ?_) 2 (some 106) ?_ ?_
          case refine_2 => intro w hSw; go_simp; try with_reducible rfl
          try simp only [putS]
          refine take_in (v := ?_) 3 (some 107) ?_ ?_
          case refine_2 => intro w hSw; go_simp; try with_reducible rfl
          try simp only [putS]
          refine take_in (v := ?_) 4 (some 108) ?_ ?_
          case refine_2 => intro w hSw; go_simp; try with_reducible rfl
          try simp only [putS]
          refine take_in (v := ?_) 7 (some 111) ?_ ?_
          case refine_2 => intro w hSw; go_simp; try with_reducible rfl
          try simp only [putS]
          refine take_in (v := ?_) 8 (some 112) ?_ ?_
          case refine_2 => (intro w hSw; (try dsimp only at hSw); have hcv := HCv.out _ (HKw.out.then hSw); go_simp; try with_reducible rfl)
          try simp only [putS]
          refine wpAnyH_ready (rs := [5]) (by kernel_rfl) (by simp) ?_
          refine AllReadyH.cons (o := _) rfl (fun K hK => ?_) AllReadyH.nil
          go_simp
          go_at_call 52; (with_reducible refine (HBy.out _ hHeld).mono ?_); rintro e w6 ⟨g6, rfl, hb6, hk6⟩; have HB6 := Lib.hid hb6; have HK6 := Lib.hid (hHeld.then hk6); clear hb6 hk6
          try go_wp2_with fail
          refine hK.out _ _ (HK6.out) (fun hHeld => ?_)
          clear hK K
          try simp only [putS]
          refine wpAnyH_ready (rs := [6]) (by kernel_rfl) (by simp) ?_
          refine AllReadyH.cons (o := _) rfl (fun K hK => ?_) AllReadyH.nil
          have hcv6 := HCb.out _ _ _ HB6.out
          go_simp
          clear hcv6
          refine hK.out _ _ (hHeld) (fun hHeld => ?_)
          clear hK K
          try simp only [putS]
          refine take_in (v := ?_) 9 (some 113) ?_ ?_
          case refine_2 => intro w hSw; go_simp; try with_reducible rfl
          try simp only [putS]
          refine take_in (v := ?_) 10 (some 114) ?_ ?_
          case refine_2 => intro w hSw; go_simp; try with_reducible rfl
          try simp only [putS]
          refine take_in (v := ?_) 11 (some 115) ?_ ?_
          case refine_2 => intro w hSw; go_simp; try with_reducible rfl
          try simp only [putS]
          refine take_no 12 (some 116) ?_
          try simp only [putS]
          refine take_no 13 (some 117) ?_
          try simp only [putS]
          refine take_no 14 (some 118) ?_
          try simp only [putS]
          refine take_no 15 (some 119) ?_
          try simp only [putS]
          refine take_no 16 (some 120) ?_
          try simp only [putS]
          refine take_no 17 (some 121) ?_
          try simp only [putS]
          refine take_no 18 (some 122) ?_
          try simp only [putS]
          refine take_no 19 (some 123) ?_
          try simp only [putS]
          refine take_no 20 (some 124) ?_
          try simp only [putS]
          refine take_no 21 (some 125) ?_
          try simp only [putS]
          refine take_no 22 (some 126) ?_
          try simp only [putS]
          refine take_no 23 (some 127) ?_
          try simp only [putS]
          refine take_no 24 (some 128) ?_
          try simp only [putS]
          refine take_no 25 (some 129) ?_
          try simp only [putS]
          refine take_no 26 (some 130) ?_
          try simp only [putS]
          refine take_no 27 (some 131) ?_
          try simp only [putS]
          refine take_no 28 (some 132) ?_
          try simp only [putS]
          refine take_no 29 (some 133) ?_
          try simp only [putS]
          refine take_no 30 (some 134) ?_
          try simp only [putS]
          refine take_no 31 (some 135) ?_
          try simp only [putS]
          refine take_no 32 (some 136) ?_
          try simp only [putS]
          refine take_in (v := ?_) 33 (some 137) ?_ ?_
          case refine_2 => intro w hSw; go_simp; try with_reducible rfl
          try simp only [putS]
          refine wpAnyH_done (by kernel_rfl) ?_ _
          go_wp2_with fail
          go_ret2
          exact RetDParse.no HNo.out (HKw.out.then hHeld)
end Go.Proofs.YthppgchmamonnaaGreatDoor
