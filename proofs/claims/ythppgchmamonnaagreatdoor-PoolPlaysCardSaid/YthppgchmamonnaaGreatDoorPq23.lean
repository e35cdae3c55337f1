/- Pages as bytes: parse. -/
import Derived.Test.YthppgchmamonnaaGreatDoorPq22
namespace Go.Proofs.YthppgchmamonnaaGreatDoor
open Go.RowKit
def g16 (ys : List Int) (o : Nat) : Int := ys.getD o 0 + 256 * ys.getD (o + 1) 0
def slotAt (ys : List Int) (i : Nat) : Option (Option (List Int)) :=
  if g16 ys (18 + 4 * i) - 1 < 0 then some none
  else if 512 < g16 ys (16 + 4 * i) + (g16 ys (18 + 4 * i) - 1) ∨ 400 < g16 ys (18 + 4 * i) - 1 then none
  else some (some ((ys.drop (g16 ys (16 + 4 * i)).toNat).take (g16 ys (18 + 4 * i) - 1).toNat))
def decSlots (ys : List Int) : Nat → Option (List (Option (List Int)))
  | 0 => some []
  | j + 1 => (decSlots ys j).bind fun l => (slotAt ys j).map fun s => l ++ [s]
def pageOf (ys : List Int) (ss : List (Option (List Int))) : PgM := ⟨ys.getD 0 0, g16 ys 2 + 65536 * g16 ys 4, ss⟩
def pageMay (ys : List Int) (ss : List (Option (List Int))) : Bool := !(ss.getLast? == some none) && decide (usedOf ss ≤ 512) && decide (bytesOf (pageOf ys ss) = ys)
def parseOf (ys : List Int) : Option PgM :=
  if 60 < ys.getD 1 0 then none else (decSlots ys (ys.getD 1 0).toNat).bind fun ss => if pageMay ys ss then some (pageOf ys ss) else none
def InB (ys : List Int) : Prop := ∀ y ∈ ys, 0 ≤ y ∧ y < 256
theorem InB.getD {ys : List Int} (h : InB ys) (i : Nat) : 0 ≤ ys.getD i 0 ∧ ys.getD i 0 < 256 := by
  rw [List.getD_eq_getElem?_getD]
  cases hq : ys[i]? with
  | none => simp
  | some y => exact h y (List.mem_of_getElem? hq)
theorem InB.g16 {ys : List Int} (h : InB ys) (i : Nat) : 0 ≤ g16 ys i ∧ g16 ys i < 65536 := by
  have h1 := h.getD i
  have h2 := h.getD (i + 1)
  unfold Proofs.YthppgchmamonnaaGreatDoor.g16
  omega
theorem decSlots_len (ys : List Int) : ∀ (j : Nat) (l : List (Option (List Int))), decSlots ys j = some l → l.length = j := by
  intro j
  induction j with
  | zero => intro l h; simp [decSlots] at h; subst h; rfl
  | succ j ih =>
    intro l h
    simp only [decSlots, Option.bind_eq_some_iff, Option.map_eq_some_iff] at h
    obtain ⟨m, hm, s, hs, rfl⟩ := h
    simp [ih m hm]
theorem slotAt_len {ys : List Int} {i : Nat} {s : Option (List Int)} (h : slotAt ys i = some s) : slotLen s ≤ 400 := by
  unfold slotAt at h
  split at h
  · simp at h; rw [← h]; simp [slotLen]
  · split at h
    · cases h
    · rename_i h1 h2
      simp only [Option.some.injEq] at h
      rw [← h]
      simp only [slotLen, Option.getD_some, List.length_take]
      omega
theorem decSlots_sized {ys : List Int} : ∀ (j : Nat) (l : List (Option (List Int))), decSlots ys j = some l → ∀ s ∈ l, slotLen s ≤ 400 := by
  intro j
  induction j with
  | zero => intro l h s hs; simp [decSlots] at h; subst h; cases hs
  | succ j ih =>
    intro l h s hs
    simp only [decSlots, Option.bind_eq_some_iff, Option.map_eq_some_iff] at h
    obtain ⟨m, hm, t, ht, rfl⟩ := h
    rcases List.mem_append.1 hs with h1 | h1
    · exact ih m hm s h1
    · rw [List.mem_singleton.1 h1]; exact slotAt_len ht
def RowsOf (w wr : World) (pg : Nat) (lv : Value) : Nat → Prop := fun x => w.heap.size ≤ x ∧ x < wr.heap.size ∧ x ≠ pg ∧ lv.ownBlock ≠ some x
def ParseRel (w : World) (ys : List Int) (pg : Nat) (j : Nat) (wr : World) : Prop :=
  ∃ ss us lv, decSlots ys j = some ss ∧ wr.heap[pg]? = some (.cells #[.bool true, .int .i64 (ys.getD 0 0), .int .i64 (g16 ys 2 + 65536 * g16 ys 4), lv] 94 (0, 0)) ∧ SlotsOwn wr lv us ss (RowsOf w wr pg lv) (From w.heap.size) ∧ lv.ownBlock ≠ some pg ∧ Kept Nob w wr
theorem ParseRel.more {w wr w1 w4 : World} {ys : List Int} {pg j g4 cap : Nat} {ss : List (Option (List Int))} {us : List Value} {lv u : Value} {s : Option (List Int)} (hpg : w.heap.size ≤ pg) (hdec : decSlots ys j = some ss) (hs : slotAt ys j = some s)
    (hpb : wr.heap[pg]? = some (.cells #[.bool true, .int .i64 (ys.getD 0 0), .int .i64 (g16 ys 2 + 65536 * g16 ys 4), lv] 94 (0, 0))) (hso : SlotsOwn wr lv us ss (RowsOf w wr pg lv) (From w.heap.size)) (hlv : lv.ownBlock ≠ some pg) (hkr : Kept Nob w wr) (hk1 : Kept Nob wr w1)
    (hu : SlotRow w1 u s (fun x => wr.heap.size ≤ x ∧ x < w1.heap.size)) (ho4 : OwnK 2 w4 96 (.slice (some ⟨g4, 0, none⟩) (ss.length + 1) cap) (ss.length + 1) (slotCells us ss ++ [u, .bool s.isSome]) (fun x => lv.ownBlock = some x ∨ w1.heap.size ≤ x)) (hk4 : Kept (fun x => lv.ownBlock = some x) w1 w4) :
    ParseRel w ys pg (j + 1) (w4.setCell ⟨pg, 3, none⟩ (.slice (some ⟨g4, 0, none⟩) (ss.length + 1) cap)) := by
  have hpl : pg < wr.heap.size := (Array.getElem?_eq_some_iff.1 hpb).1
  have s0 := hkr.size
  have s1 := hk1.size
  have s4 := hk4.size
  have hlt : ∀ x, lv.ownBlock = some x → x < wr.heap.size := fun x hx => hso.2.1.blockLt hx
  have hg4 : lv.ownBlock = some g4 ∨ w1.heap.size ≤ g4 := ho4.2 g4 rfl
  have hg4l : g4 < w4.heap.size := ho4.blockLt rfl
  have hgp : g4 ≠ pg := fun e => by
    rcases hg4 with h | h
    · exact hlv (e ▸ h)
    · omega
  have k5 := kept1 w4 pg 3 (.slice (some ⟨g4, 0, none⟩) (ss.length + 1) cap)
  have hlvn : ∀ x, RowsOf w wr pg lv x → ¬ (lv.ownBlock = some x) := fun x hx => hx.2.2.2
  refine ⟨ss ++ [s], us ++ [u], .slice (some ⟨g4, 0, none⟩) (ss.length + 1) cap, ?_, ?_, ⟨by simp [hso.1], ?_, fun i v t hv ht => ?_⟩, ?_, ?_⟩
  · rw [decSlots, hdec]
    simp [hs]
  · exact heap_set w4 pg 3 _ _ _ ((hk4.block pg (by omega) hlv).trans ((hk1.block pg hpl (fun f => f)).trans hpb))
  · have e : (ss ++ [s]).length = ss.length + 1 := by simp
    rw [e, slotCells_append us ss u s hso.1]
    refine (ho4.mono (G := fun x => w.heap.size ≤ x ∧ x ≠ pg) fun x _ hx => ?_).kept k5 (fun x hx e => hx.2 e) |>.mono fun x _ hx => hx.1
    rcases hx with hx | hx
    · exact ⟨hso.2.1.2 x hx, fun e => hlv (e ▸ hx)⟩
    · exact ⟨by omega, by omega⟩
  · have hl1 := hso.1
    have main : ∀ (v : Value) (t : Option (List Int)) (Z : Nat → Prop), SlotRow w1 v t Z → (∀ x, Z x → w.heap.size ≤ x ∧ x < w1.heap.size ∧ x ≠ pg ∧ lv.ownBlock ≠ some x) → SlotRow (w4.setCell ⟨pg, 3, none⟩ (.slice (some ⟨g4, 0, none⟩) (ss.length + 1) cap)) v t (RowsOf w (w4.setCell ⟨pg, 3, none⟩ (.slice (some ⟨g4, 0, none⟩) (ss.length + 1) cap)) pg (.slice (some ⟨g4, 0, none⟩) (ss.length + 1) cap)) := by
      intro v t Z hr hZ
      refine ((hr.kept hk4 (fun x hx e => (hZ x hx).2.2.2 e)).kept k5 (fun x hx e => (hZ x hx).2.2.1 e)).mono fun x _ hx => ?_
      obtain ⟨z1, z2, z3, z4⟩ := hZ x hx
      refine ⟨z1, by rw [set_size]; omega, z3, fun e => ?_⟩
      simp only [Value.ownBlock, Option.some.injEq] at e
      subst e
      rcases hg4 with h | h
      · exact z4 h
      · omega
    by_cases hi : i < ss.length
    · rw [List.getElem?_append_left (by omega)] at hv
      rw [List.getElem?_append_left hi] at ht
      exact main v t _ ((hso.2.2 i v t hv ht).kept hk1 (fun _ _ f => f)) fun x hx => ⟨hx.1, Nat.lt_of_lt_of_le hx.2.1 s1, hx.2.2.1, hx.2.2.2⟩
    · have hie : i = ss.length := by have := (List.getElem?_eq_some_iff.1 ht).1; simp at this; omega
      rw [List.getElem?_append_right (by omega), hl1, hie] at hv
      rw [List.getElem?_append_right (by omega), hie] at ht
      simp at hv ht
      subst hv ht
      exact main _ _ _ hu fun x hx => ⟨by omega, hx.2, by omega, fun e => by have := hlt x e; omega⟩
  · simp only [Value.ownBlock, ne_eq, Option.some.injEq]
    exact hgp
  · exact ((hkr.then hk1).trans hk4 fun x hx e => by have := hso.2.1.2 x e; have h2 : w.heap.size ≤ x := this; omega).trans k5 fun x hx e => by have e : x = pg := e; omega
theorem decSlots_dead {ys : List Int} {j : Nat} (h : slotAt ys j = none) : ∀ n, j < n → decSlots ys n = none := by
  intro n
  induction n with
  | zero => intro h; omega
  | succ n ih =>
    intro hj
    by_cases he : n = j
    · subst he
      rw [decSlots, h]
      cases decSlots ys n <;> rfl
    · rw [decSlots, ih (by omega)]; rfl
theorem id_or (x y : Int) (hx : 0 ≤ x ∧ x < 65536) (hy : 0 ≤ y ∧ y < 65536) : bits BinOp.or IntKind.i64 x (y * 65536) = x + 65536 * y := by
  have h := bits_join .i64 32 (by decide) (fun n h0 h1 => IntWalk.i64_in n ⟨by omega, by omega⟩) 16 (y * 65536) x (by omega) (by omega) (by omega) (by omega) (by omega) (by omega)
  have hc : bits BinOp.or IntKind.i64 x (y * 65536) = bits BinOp.or IntKind.i64 (y * 65536) x := by
    simp only [bits, BitVec.or_comm]
  rw [hc, h]; omega
def RetNil (w : World) (en : Ending) (w' : World) : Prop := en = .returned (.pointer none) ∧ Kept Nob w w'
set_option maxRecDepth 100000 in
theorem slots_parse_many (w : World) (v : Value) (ys : List Int) (F : Nat → Prop) (h : Reads w v (ys.map (Value.int .u8)) F) (hl : ys.length = 512) (h60 : 60 < ys.getD 1 0) :
    Calls Tryz.prog 100 #[v] w (RetNil w) := by
  obtain ⟨va, vc, rfl, -⟩ := h.shape
  rw [List.length_map, hl] at h ⊢
  obtain ⟨b, o, x, rfl, hx, hc, -⟩ := h.cell (i := 1) (by rw [List.length_map]; omega)
  obtain rfl : x = .int .u8 (ys.getD 1 0) := by
    rw [List.getElem?_map, List.getElem?_eq_getElem (by omega)] at hx
    rw [List.getD_eq_getElem?_getD, List.getElem?_eq_getElem (by omega)]
    exact (Option.some.inj hx).symm
  clear h hx
  generalize ys.getD 1 0 = y at *
  go_enter Tryz.func100, Tryz.ntmps100
  go_wp2
  go_ret
  exact ⟨rfl, Kept.refl _ _⟩
theorem take_to {P : Program} {ops : Array Oper} {Q : Exit → Act → World → Prop} {S : World → Prop} {md : Region.Mode} {i : Nat} {oi : Oper} {v : Value} {fuel : Nat} {listed : Array Bool} {a : Act} {w : World} (d : Option Tmp) (hi : ops[i]? = some oi) (hd : oi.dst = d)
    (hs : Region.noSelect ops = true) (hf : Region.free md ops listed i = true) (hr : (Region.ready md ops listed).contains i = true)
    (hQ : ∀ c a w, Q (.panic c) (a.put d v) w → Q (.panic c) a w) (hy : YieldsIf P ops S oi v a) (hS : S w)
    (h : wpAnyH P md ops Q S fuel (listed.setIfInBounds i true) (a.put d v) w) : wpAnyH P md ops Q S (fuel + 1) listed a w := by
  subst hd
  exact wpAnyH_take hi hs hf hr hQ hy hS h
theorem putS : (∀ (a : Act) (v : Value), a.put none v = a) ∧ (∀ (a : Act) (k : Tmp) (v : Value), a.put (some k) v = { a with tmps := a.tmps.setIfInBounds k v }) ∧ (∀ (l : List Value) (i : Nat) (a : Value), l.toArray.setIfInBounds i a = (l.set i a).toArray) ∧ (∀ (x : Value) (l : List Value) (a : Value), (x :: l).set 0 a = a :: l) ∧ ∀ (x : Value) (l : List Value) (n : Nat) (a : Value), (x :: l).set (n + 1) a = x :: l.set n a :=
  ⟨fun _ _ => rfl, fun _ _ _ => rfl, fun _ _ _ => List.setIfInBounds_toArray _ _ _, fun _ _ _ => rfl, fun _ _ _ _ => rfl⟩
theorem take_in {P : Program} {ops : Array Oper} {Q : Exit → Act → World → Prop} {S : World → Prop} {md : Region.Mode} (i : Nat) (d : Option Tmp) {oi : Oper} {v : Value} {fuel : Nat} {listed : Array Bool} {a : Act} {w : World}
    (hy : ∀ w, S w → (execOp a.eval oi).run P w = .ok (.value v) w) (h : wpAnyH P md ops Q S fuel (listed.setIfInBounds i true) (a.put d v) w)
    (hi : ops[i]? = some oi := by rfl) (hd : oi.dst = d := by kernel_rfl) (hs : Region.noSelect ops = true := by kernel_rfl) (hf : Region.free md ops listed i = true := by kernel_rfl) (hr : (Region.ready md ops listed).contains i = true := by kernel_rfl)
    (hQ : ∀ c a w, Q (.panic c) (a.put d v) w → Q (.panic c) a w := by exact fun _ _ _ h => h) (hw : Region.wanted oi (yielded ops a.tmps) = true := by kernel_rfl) (hS : S w := by assumption) : wpAnyH P md ops Q S (fuel + 1) listed a w :=
  take_to d hi hd hs hf hr hQ (Or.inl ⟨hw, hy⟩) hS h
theorem take_no {P : Program} {ops : Array Oper} {Q : Exit → Act → World → Prop} {S : World → Prop} {md : Region.Mode} (i : Nat) (d : Option Tmp) {oi : Oper} {fuel : Nat} {listed : Array Bool} {a : Act} {w : World} (h : wpAnyH P md ops Q S fuel (listed.setIfInBounds i true) (a.put d undef) w)
    (hi : ops[i]? = some oi := by rfl) (hd : oi.dst = d := by kernel_rfl) (hs : Region.noSelect ops = true := by kernel_rfl) (hf : Region.free md ops listed i = true := by kernel_rfl) (hr : (Region.ready md ops listed).contains i = true := by kernel_rfl)
    (hQ : ∀ c a w, Q (.panic c) (a.put d undef) w → Q (.panic c) a w := by exact fun _ _ _ h => h) (hw : Region.wanted oi (yielded ops a.tmps) = false := by kernel_rfl) (hS : S w := by assumption) : wpAnyH P md ops Q S (fuel + 1) listed a w :=
  take_to d hi hd hs hf hr hQ (Or.inr ⟨hw, rfl⟩) hS h
def RetParse (w : World) (ys : List Int) (e : Ending) (w' : World) : Prop :=
  (parseOf ys = none → RetNil w e w') ∧ ∀ p, parseOf ys = some p → ∃ pg, e = .returned (.pointer (some ⟨pg, 0, none⟩)) ∧ w.heap.size ≤ pg ∧ PageAt w' pg p (fun x => w.heap.size ≤ x ∧ x ≠ pg) ∧ Kept Nob w w'
set_option maxRecDepth 100000 in
set_option maxHeartbeats 20000000 in
theorem slots_parse (w : World) (v : Value) (ys : List Int) (F : Nat → Prop) (h : Reads w v (ys.map (Value.int .u8)) F) (hl : ys.length = 512) (hB : InB ys) (h60 : ys.getD 1 0 ≤ 60) :
    Calls Tryz.prog 100 #[v] w (RetParse w ys) := by
  obtain ⟨va, vc, rfl, -⟩ := h.shape
  rw [List.length_map, hl] at h ⊢
  have hg : ∀ i, i < 512 → ys[i]? = some (ys.getD i 0) := fun i hi => by
    rw [List.getD_eq_getElem?_getD, List.getElem?_eq_getElem (by omega)]; rfl
  obtain ⟨b, o, rfl, hcell, hcap, hbl⟩ : ∃ b o, va = some ⟨b, o, none⟩ ∧ (∀ i, i < 512 → w.cell? ⟨b, o + i, none⟩ = some (.int .u8 (ys.getD i 0))) ∧ 512 ≤ vc ∧ b < w.heap.size := by
    rcases h with ⟨hx, _⟩ | ⟨b, o, c, hv, hle, hb, _, hc⟩
    · simp at hx; simp [hx] at hl
    · simp only [Value.slice.injEq] at hv
      obtain ⟨rfl, hn, rfl⟩ := hv
      exact ⟨b, o, rfl, fun i hi => hc i _ (by rw [List.getElem?_map, hg i hi]; rfl), by omega, hb⟩
  have HC := Lib.hid hcell
  have HV := Lib.hid h
  have HB := Lib.hid hB
  have HG : Hid (∀ (W : World) (k l c : Nat), Kept Nob w W → k + 2 ≤ 512 → 2 ≤ l → Calls Tryz.prog 112 #[.slice (some ⟨b, o + k, none⟩) l c] W fun e w' => e = .returned (.int .i64 (g16 ys k)) ∧ Kept Nob W w') :=
    Lib.hid fun W k l c hk h1 h2 => (get16_any W b (o + k) l c (ys.getD k 0) (ys.getD (k + 1) 0) ((hk.cell (p := ⟨b, o + k, none⟩) hbl (fun f => f)).trans (hcell k (by omega))) ((hk.cell (p := ⟨b, o + (k + 1), none⟩) hbl (fun f => f)).trans (hcell (k + 1) (by omega))) h2 (hB.getD k) (hB.getD (k + 1))).mono fun e w' ⟨he, n, hw⟩ => ⟨he, hw ▸ Kept.drewN _ _ _⟩
  have x0 : w.cell? ⟨b, o, none⟩ = some (.int .u8 (ys.getD 0 0)) := hcell 0 (by omega)
  have x1 : w.cell? ⟨b, o + 1, none⟩ = some (.int .u8 (ys.getD 1 0)) := hcell 1 (by omega)
  have r0 := hB.getD 0
  have r1 := hB.getD 1
  have hc2 : ¬ vc = 2 := by omega
  have hc4 : ¬ vc = 4 := by omega
  have HId := Lib.hid (id_or (g16 ys 2) (g16 ys 4) (hB.g16 2) (hB.g16 4))
  obtain ⟨y0, hy0⟩ : ∃ y0, ys.getD 0 0 = y0 := ⟨_, rfl⟩
  obtain ⟨nn, hnn⟩ : ∃ nn : Nat, ys.getD 1 0 = (nn : Int) := ⟨(ys.getD 1 0).toNat, by omega⟩
  have hPO : Hid (parseOf ys = (decSlots ys nn).bind fun ss => if pageMay ys ss then some (pageOf ys ss) else none) := Lib.hid (by
    unfold parseOf
    rw [if_neg (by omega), hnn]; rfl)
  rw [hy0] at x0 r0
  rw [hnn] at x1 r1
  have hn60 : nn ≤ 60 := by omega
  have HY0 := Lib.hid hy0
  have HX0 := Lib.hid x0
  have hle : ¬ (60 : Int) < (nn : Int) := by omega
  clear h hcell hB hg hy0 hnn h60
  go_enter Tryz.func100, Tryz.ntmps100
  go_wp2_with fail
  go_region_held3 (fun w' => w'.cell? ⟨b, o, none⟩ = some (.int .u8 y0)) (first | (go_keep; done) | assumption)
    ((first
      | (go_at_call 112; (with_reducible refine (HG.out _ 2 510 (vc - 2) (Kept.drew Nob w) (by omega) (by omega)).mono ?_); rintro e w1 ⟨rfl, hk1⟩; have HK1 := Lib.hid ((Kept.drew Nob w).trans' hk1); have x0 : w1.cell? ⟨b, o, none⟩ = some (.int .u8 y0) := (HK1.out.cell (p := ⟨b, o, none⟩) hbl (fun f => f)).trans HX0.out; clear hk1)
      | (go_at_call 112; (with_reducible refine (HG.out _ 4 508 (vc - 4) HK1.out (by omega) (by omega)).mono ?_); rintro e w2 ⟨rfl, hk2⟩; have HK2 := Lib.hid (HK1.out.trans' hk2); have x0 : w2.cell? ⟨b, o, none⟩ = some (.int .u8 y0) := (HK2.out.cell (p := ⟨b, o, none⟩) hbl (fun f => f)).trans HX0.out; clear hk2)))
  have h4 := HB.out.g16 4
  have e1 : IntKind.i64.wrap y0 = y0 := IntWalk.i64_in _ ⟨by omega, by omega⟩
  have e2 : IntKind.i64.wrap (g16 ys 4 * 65536) = g16 ys 4 * 65536 := IntWalk.i64_in _ ⟨by omega, by omega⟩
  rw [e1, e2, HId.out]
  clear e1 e2 h4
  have HR0 : Hid (ParseRel w ys w2.heap.size 0 (w2.alloc (.cells #[.bool true, .int .i64 y0, .int .i64 (g16 ys 2 + 65536 * g16 ys 4), .slice none 0 0] 94))) := by
    refine Lib.hid ⟨[], [], .slice none 0 0, rfl, ?_, ⟨rfl, OwnK.nil _ _ _ _, fun i u s h => by simp at h⟩, by simp [Value.ownBlock], HK2.out.then (Kept.alloc _ _ _)⟩
    rw [HY0.out]
    exact heap_alloc_new w2 _
  have hpg : w.heap.size ≤ w2.heap.size := HK2.out.size
  have HK0 := Lib.hid (HK2.out.then (Kept.alloc Nob w2 (.cells #[.bool true, .int .i64 y0, .int .i64 (g16 ys 2 + 65536 * g16 ys 4), .slice none 0 0] 94)))
  have x1' := (HK0.out.cell (p := ⟨b, o + 1, none⟩) hbl (fun f => f)).trans x1
  clear x0 x1 r0 HX0
  generalize w2.alloc (.cells #[.bool true, .int .i64 y0, .int .i64 (g16 ys 2 + 65536 * g16 ys 4), .slice none 0 0] 94) = wp at *
  generalize w2.heap.size = pg at *
  obtain ⟨idv, hidv⟩ : ∃ idv, g16 ys 2 + 65536 * g16 ys 4 = idv := ⟨_, rfl⟩
  obtain ⟨q2v, hq2v⟩ : ∃ q2v, g16 ys 2 = q2v := ⟨_, rfl⟩
  obtain ⟨q4v, hq4v⟩ : ∃ q4v, g16 ys 4 * 65536 = q4v := ⟨_, rfl⟩
  obtain ⟨q5v, hq5v⟩ : ∃ q5v, g16 ys 4 = q5v := ⟨_, rfl⟩
  rw [hidv, hq4v, hq2v, hq5v]
  clear hidv hq4v hq2v hq5v
  go_wp2_with fail
  go_loopw [35] (fun i wr => ∃ j : Nat, j ≤ nn ∧ i = .int .i64 j ∧ ParseRel w ys pg j wr) (fun i _ => nn - (intOf i).toNat)
  case atStart => exact ⟨0, Nat.zero_le _, rfl, HR0.out⟩
  case round =>
    clear HR0 HK0 x1'
    obtain ⟨j, hj, rfl, ss, us, lv, hdec, hpb, hso, hlvp, hkr⟩ := hrel
    have hsl60 : ss.length ≤ 60 := by have := decSlots_len ys j ss hdec; omega
    obtain ⟨la, lc, rfl, -⟩ := hso.2.1.reads.shape
    have HDec := Lib.hid hdec
    have HPb := Lib.hid hpb
    have HSo := Lib.hid hso
    have HLv := Lib.hid hlvp
    have HKr := Lib.hid hkr
    have hpl : pg < wr.heap.size := (Array.getElem?_eq_some_iff.1 hpb).1
    have c3 : wr.cell? ⟨pg, 3, none⟩ = some (.slice la ss.length lc) := cell_at hpb 3 _ rfl
    have f3 : wr.frozen? ⟨pg, 3, none⟩ = false := frozen_at hpb 3
    clear hdec hpb hso hlvp hkr
    by_cases hlt : j < nn
    · have hcap1 : ¬ vc = 16 + 4 * j := by omega
      have hle1 : (16 : Int) + 4 * (j : Int) ≤ 512 := by omega
      obtain ⟨L, hL⟩ : ∃ L, 512 - (16 + 4 * j) = L := ⟨_, rfl⟩
      obtain ⟨C, hC⟩ : ∃ C, vc - (16 + 4 * j) = C := ⟨_, rfl⟩
      have hL3 : 250 ≤ L := by omega
      have hC3 : 250 ≤ C := by omega
      have hC2 : ¬ C = 2 := by omega
      have hL2 : (2 : Int) ≤ (L : Int) := by omega
      have HG1 := Lib.hid (fun W (k : Kept Nob wr W) => HG.out W (16 + 4 * j) L C (HKr.out.trans' k) (by omega) (by omega))
      have HG2 := Lib.hid (fun W (k : Kept Nob wr W) => HG.out W (18 + 4 * j) (L - 2) (C - 2) (HKr.out.trans' k) (by omega) (by omega))
      rw [show o + (18 + 4 * j) = o + (16 + 4 * j) + 2 from by omega] at HG2
      have HRa := Lib.hid (⟨HB.out.g16 (16 + 4 * j), HB.out.g16 (18 + 4 * j)⟩ : _ ∧ _)
      go_wp2_with fail
      rw [hL, hC]
      clear hL hC
      go_region_held3 (fun w' => True) (trivial)
        ((first
          | (go_at_call 112; (with_reducible refine (HG1.out _ (Kept.drew Nob wr)).mono ?_); rintro e w3 ⟨rfl, hk3⟩; have HK3 := Lib.hid ((Kept.drew Nob wr).trans' hk3); clear hk3)
          | (go_at_call 112; (with_reducible refine (HG2.out _ HK3.out).mono ?_); rintro e w5 ⟨rfl, hk5⟩; have HK5 := Lib.hid (HK3.out.trans' hk5); clear hk5)))
      obtain ⟨fr, hfr⟩ : ∃ fr, g16 ys (16 + 4 * j) = fr := ⟨_, rfl⟩
      obtain ⟨gm, hgm⟩ : ∃ gm, g16 ys (18 + 4 * j) = gm := ⟨_, rfl⟩
      have hra := HRa.out
      rw [hfr, hgm] at hra ⊢
      have hwr : IntKind.i64.wrap (gm - 1) = gm - 1 := IntWalk.i64_in _ ⟨by omega, by omega⟩
      rw [hwr]
      have hSA : Hid (slotAt ys j = if gm - 1 < 0 then some none else if 512 < fr + (gm - 1) ∨ 400 < gm - 1 then none else some (some ((ys.drop fr.toNat).take (gm - 1).toNat))) := Lib.hid (by unfold slotAt; rw [hfr, hgm])
      obtain ⟨m, hm⟩ : ∃ m : Int, gm - 1 = m := ⟨_, rfl⟩
      rw [hm] at hSA ⊢
      have hmr : -1 ≤ m ∧ m < 65536 := by omega
      have hfrr := hra.1
      have hb5 := (HK5.out.block pg hpl (fun f => f)).trans HPb.out
      have c35 : w5.cell? ⟨pg, 3, none⟩ = some (.slice la ss.length lc) := cell_at hb5 3 _ rfl
      have f35 : w5.frozen? ⟨pg, 3, none⟩ = false := frozen_at hb5 3
      clear hra HRa hwr hm hfr hgm HG1 HG2 hb5 c3 f3
      by_cases hm0 : m < 0
      · have HSs := Lib.hid (hSA.out.trans (if_pos hm0))
        have hone : ∀ u ∈ [Value.slice none 0 0, Value.bool false], u.oneCell' = true := by
          intro u hu
          simp only [List.mem_cons, List.not_mem_nil, or_false] at hu
          rcases hu with rfl | rfl <;> rfl
        have HOn := Lib.hid hone
        have HSo5 := Lib.hid (HSo.out.2.1.kept HK5.out (fun _ _ f => f))
        clear hone hSA
        go_wp2_with ((at_builtin; refine wpList_append1K rfl _ _ 92 rfl tSlots (.slice la ss.length lc) ss.length (slotCells us ss) [.slice none 0 0, .bool false] (From w.heap.size) _ 0 1 rfl rfl (HSo5.out.alloc _) rfl (new_cells w5 #[.slice none 0 0, .bool false] _) (Nat.le_refl _) HOn.out (by omega) ?_; intro g6 cap6 w6 ho6 hk6; have c36 : w6.cell? ⟨pg, 3, none⟩ = some (.slice la ss.length lc) := (hk6.cell (p := ⟨pg, 3, none⟩) (by have := HK5.out.size; simp; omega) HLv.out).trans (((Kept.alloc Nob w5 _).cell (p := ⟨pg, 3, none⟩) (by have := HK5.out.size; show pg < _; omega) (fun f => f)).trans c35); have f36 : w6.frozen? ⟨pg, 3, none⟩ = false := (hk6.frozen (p := ⟨pg, 3, none⟩) (by have := HK5.out.size; simp; omega) HLv.out).trans (((Kept.alloc Nob w5 _).frozen (p := ⟨pg, 3, none⟩) (by have := HK5.out.size; show pg < _; omega) (fun f => f)).trans f35); have HO6 := Lib.hid ho6; have HK6 := Lib.hid hk6; clear ho6 hk6))
        have HN := Lib.hid (ParseRel.more (u := .slice none 0 0) (s := none) hpg HDec.out HSs.out HPb.out HSo.out HLv.out HKr.out (HK5.out.trans' (Kept.alloc Nob w5 _)) rfl HO6.out HK6.out)
        go_roundw
        case rel => exact ⟨j + 1, by omega, by go_num, HN.out⟩
        case measure => simp [intOf]; omega
      · by_cases hbig : 512 < fr + m ∨ 400 < m
        · have HDd : Hid (parseOf ys = none) := Lib.hid (by rw [hPO.out, decSlots_dead (hSA.out.trans ((if_neg hm0).trans (if_pos hbig))) nn hlt]; rfl)
          have HKw := Lib.hid (HKr.out.trans' HK5.out)
          clear hSA
          by_cases hb1 : 512 < fr + m
          · go_wp2_with fail
            go_ret
            exact ⟨fun _ => ⟨rfl, HKw.out⟩, fun p hp => by rw [HDd.out] at hp; cases hp⟩
          · have hb2 : 400 < m := by omega
            go_wp2_with fail
            go_ret
            exact ⟨fun _ => ⟨rfl, HKw.out⟩, fun p hp => by rw [HDd.out] at hp; cases hp⟩
        · have hSs := hSA.out.trans ((if_neg hm0).trans (if_neg hbig))
          obtain ⟨frn, hfrn⟩ : ∃ frn : Nat, fr = frn := ⟨fr.toNat, by omega⟩
          obtain ⟨mn, hmn⟩ : ∃ mn : Nat, m = mn := ⟨m.toNat, by omega⟩
          subst hfrn hmn
          rw [Int.toNat_natCast, Int.toNat_natCast] at hSs
          have hfm : frn + mn ≤ 512 := by omega
          have hm4 : mn ≤ 400 := by omega
          have t1 : ¬ (512 : Int) < (frn : Int) + (mn : Int) := by omega
          have t2 : ¬ (400 : Int) < (mn : Int) := by omega
          have hxl : ((ys.drop frn).take mn).length = mn := by rw [List.length_take, List.length_drop, hl]; omega
          have HSs := Lib.hid hSs
          have HXl := Lib.hid hxl
          have HV5 := Lib.hid ((HV.out.kept HKr.out (fun _ _ f => f)).kept HK5.out (fun _ _ f => f) |>.mono (G := fun _ => True) fun _ _ _ => trivial)
          clear hSA hSs hxl hbig hm0 hmr hfrr
          by_cases hvf : vc = frn
          · have hvt : (vc = frn) = True := eq_true hvf
            have hrd : Reads w5 (.slice (some ⟨b, o, none⟩) mn (vc - frn)) (((ys.drop frn).take mn).map (Value.int .u8)) (fun _ => True) := .inl ⟨by rw [List.length_eq_zero_iff.1 (show ((ys.drop frn).take mn).length = 0 by rw [List.length_take, List.length_drop, hl]; omega)]; rfl, _, _, by rw [show mn = 0 by omega], fun h => by cases h⟩
            have hm512 : mn = 0 := by omega
            have HM := Lib.hid hm512
            have HVF := Lib.hid hvf
            clear hm512
            have HCl : Hid (∀ W, Kept Nob w5 W → Calls Tryz.prog 62 #[.slice (some ⟨b, o, none⟩) mn (vc - frn)] W fun e w' => ∃ b2 c2, e = .returned (.slice b2 mn c2) ∧ Own w' 5 (.slice b2 mn c2) (((ys.drop frn).take mn).map (Value.int .u8)) (From W.heap.size) ∧ Kept Nob W w') :=
              Lib.hid fun W k => (clone_bytes W _ _ _ (hrd.kept k (fun _ _ f => f)) (bytes_cells _) (by rw [List.length_map, HXl.out]; omega)).mono fun e w' ⟨b2, c2, h1, h2, h3, _⟩ => by
                rw [List.length_map, HXl.out] at h1 h2
                exact ⟨b2, c2, h1, h2, h3⟩
            clear hrd
            generalize (ys.drop frn).take mn = xs at *
            clear hvf
            have hwr2 : IntKind.i64.wrap ((frn : Int) + (mn : Int)) = (frn : Int) + (mn : Int) := IntWalk.i64_in _ ⟨by omega, by omega⟩
            have hb3 : (frn : Int) + (mn : Int) ≤ (vc : Int) := by omega
            have hb4 : (frn : Int) ≤ (frn : Int) + (mn : Int) := by omega
            have hb3' : IntKind.i64.wrap ((frn : Int) + (mn : Int)) ≤ (vc : Int) := by omega
            have hb4' : (frn : Int) ≤ IntKind.i64.wrap ((frn : Int) + (mn : Int)) := by omega
            have hb5 : (IntKind.i64.wrap ((frn : Int) + (mn : Int))).toNat - frn = mn := by omega
            have hb6 : (IntKind.i64.wrap ((frn : Int) + (mn : Int))).toNat = frn + mn := by omega
            have hb7 : ((frn : Int) + (mn : Int)).toNat = frn + mn := by omega
            go_wp2_with fail
            go_region_law (first
              | (refine step_append1K rfl _ _ 92 rfl tSlots (.slice la ss.length lc) ss.length (slotCells us ss) _ (From w.heap.size) _ 0 1 rfl rfl (OwnK.alloc (HSo.out.2.1.kept ((HK5.out.trans' (Kept.drew Nob w5)).trans' HK7.out) (fun _ _ f => f)) _) rfl (new_cells _ _ _) (Nat.le_refl _) (by intro u hu; simp only [List.mem_cons, List.not_mem_nil, or_false] at hu; rcases hu with rfl | rfl <;> rfl) (by omega) ?_; intro g8 cap8 w8 ho8 hk8; have c38 : w8.cell? ⟨pg, 3, none⟩ = some (.slice la ss.length lc) := (hk8.cell (p := ⟨pg, 3, none⟩) (by have := HK7.out.size; have := HK5.out.size; simp at *; omega) HLv.out).trans (((Kept.alloc Nob w7 _).cell (p := ⟨pg, 3, none⟩) (by have := HK7.out.size; have := HK5.out.size; simp at *; omega) (fun f => f)).trans ((HK7.out.cell (p := ⟨pg, 3, none⟩) (by have := HK5.out.size; simp at *; omega) (fun f => f)).trans (((Kept.drew Nob w5).cell (p := ⟨pg, 3, none⟩) (by have := HK5.out.size; simp at *; omega) (fun f => f)).trans c35))); have f38 : w8.frozen? ⟨pg, 3, none⟩ = false := (hk8.frozen (p := ⟨pg, 3, none⟩) (by have := HK7.out.size; have := HK5.out.size; simp at *; omega) HLv.out).trans (((Kept.alloc Nob w7 _).frozen (p := ⟨pg, 3, none⟩) (by have := HK7.out.size; have := HK5.out.size; simp at *; omega) (fun f => f)).trans ((HK7.out.frozen (p := ⟨pg, 3, none⟩) (by have := HK5.out.size; simp at *; omega) (fun f => f)).trans (((Kept.drew Nob w5).frozen (p := ⟨pg, 3, none⟩) (by have := HK5.out.size; simp at *; omega) (fun f => f)).trans f35))); have HO8 := Lib.hid ho8; have HK8 := Lib.hid hk8; clear ho8 hk8)
              | (go_simp; go_at_call 62; (with_reducible refine (HCl.out _ (Kept.drew Nob w5)).mono ?_); rintro e w7 ⟨b7, c7, rfl, ho7, hk7⟩; have hp7 : pg < w7.heap.size := (by have := hk7.size; have := HK5.out.size; simp at *; omega); have c37 : w7.cell? ⟨pg, 3, none⟩ = some (.slice la ss.length lc) := (hk7.cell (p := ⟨pg, 3, none⟩) (by have := HK5.out.size; simp at *; omega) (fun f => f)).trans (((Kept.drew Nob w5).cell (p := ⟨pg, 3, none⟩) (by have := HK5.out.size; simp at *; omega) (fun f => f)).trans c35); have f37 : w7.frozen? ⟨pg, 3, none⟩ = false := (hk7.frozen (p := ⟨pg, 3, none⟩) (by have := HK5.out.size; simp at *; omega) (fun f => f)).trans (((Kept.drew Nob w5).frozen (p := ⟨pg, 3, none⟩) (by have := HK5.out.size; simp at *; omega) (fun f => f)).trans f35); have HO7 := Lib.hid ho7; have HK7 := Lib.hid hk7; clear ho7 hk7))
            all_goals
              have HN := Lib.hid (ParseRel.more (u := .slice b7 mn c7) (s := some xs) hpg HDec.out HSs.out HPb.out HSo.out HLv.out HKr.out (((HK5.out.trans' (Kept.drew Nob w5)).trans' HK7.out).trans' (Kept.alloc Nob w7 _)) (show Reads _ _ _ _ from (HO7.out.reads.kept (Kept.alloc Nob w7 _) (fun _ _ f => f)).mono fun x hx hf => ⟨by have := HK5.out.size; have hf2 : w5.heap.size ≤ x := hf; omega, hx⟩) HO8.out HK8.out)
              go_wp2_with fail
              go_roundw
              case rel => exact ⟨j + 1, by omega, by go_num, HN.out⟩
              case measure => simp [intOf]; omega
          · have hrd : Reads w5 (.slice (some ⟨b, o + frn, none⟩) mn (vc - frn)) (((ys.drop frn).take mn).map (Value.int .u8)) (fun _ => True) := by
              by_cases h0 : frn < 512
              · have h1 := HV5.out.dropped frn (by rw [List.length_map]; omega)
                have h2 := h1.take mn (by rw [List.length_drop, List.length_map]; omega) (by rw [List.length_drop, List.length_map]; omega)
                rw [← List.map_drop, ← List.map_take] at h2
                exact h2
              · have : mn = 0 := by omega
                subst this
                exact .inl ⟨by simp, _, _, rfl, fun h => by cases h⟩
            have HCl : Hid (∀ W, Kept Nob w5 W → Calls Tryz.prog 62 #[.slice (some ⟨b, o + frn, none⟩) mn (vc - frn)] W fun e w' => ∃ b2 c2, e = .returned (.slice b2 mn c2) ∧ Own w' 5 (.slice b2 mn c2) (((ys.drop frn).take mn).map (Value.int .u8)) (From W.heap.size) ∧ Kept Nob W w') :=
              Lib.hid fun W k => (clone_bytes W _ _ _ (hrd.kept k (fun _ _ f => f)) (bytes_cells _) (by rw [List.length_map, HXl.out]; omega)).mono fun e w' ⟨b2, c2, h1, h2, h3, _⟩ => by
                rw [List.length_map, HXl.out] at h1 h2
                exact ⟨b2, c2, h1, h2, h3⟩
            clear hrd
            generalize (ys.drop frn).take mn = xs at *
            have hwr2 : IntKind.i64.wrap ((frn : Int) + (mn : Int)) = (frn : Int) + (mn : Int) := IntWalk.i64_in _ ⟨by omega, by omega⟩
            have hb3 : (frn : Int) + (mn : Int) ≤ (vc : Int) := by omega
            have hb4 : (frn : Int) ≤ (frn : Int) + (mn : Int) := by omega
            have hb3' : IntKind.i64.wrap ((frn : Int) + (mn : Int)) ≤ (vc : Int) := by omega
            have hb4' : (frn : Int) ≤ IntKind.i64.wrap ((frn : Int) + (mn : Int)) := by omega
            have hb5 : (IntKind.i64.wrap ((frn : Int) + (mn : Int))).toNat - frn = mn := by omega
            have hb6 : (IntKind.i64.wrap ((frn : Int) + (mn : Int))).toNat = frn + mn := by omega
            have hb7 : ((frn : Int) + (mn : Int)).toNat = frn + mn := by omega
            go_wp2_with fail
            go_region_law (first
              | (refine step_append1K rfl _ _ 92 rfl tSlots (.slice la ss.length lc) ss.length (slotCells us ss) _ (From w.heap.size) _ 0 1 rfl rfl (OwnK.alloc (HSo.out.2.1.kept ((HK5.out.trans' (Kept.drew Nob w5)).trans' HK7.out) (fun _ _ f => f)) _) rfl (new_cells _ _ _) (Nat.le_refl _) (by intro u hu; simp only [List.mem_cons, List.not_mem_nil, or_false] at hu; rcases hu with rfl | rfl <;> rfl) (by omega) ?_; intro g8 cap8 w8 ho8 hk8; have c38 : w8.cell? ⟨pg, 3, none⟩ = some (.slice la ss.length lc) := (hk8.cell (p := ⟨pg, 3, none⟩) (by have := HK7.out.size; have := HK5.out.size; simp at *; omega) HLv.out).trans (((Kept.alloc Nob w7 _).cell (p := ⟨pg, 3, none⟩) (by have := HK7.out.size; have := HK5.out.size; simp at *; omega) (fun f => f)).trans ((HK7.out.cell (p := ⟨pg, 3, none⟩) (by have := HK5.out.size; simp at *; omega) (fun f => f)).trans (((Kept.drew Nob w5).cell (p := ⟨pg, 3, none⟩) (by have := HK5.out.size; simp at *; omega) (fun f => f)).trans c35))); have f38 : w8.frozen? ⟨pg, 3, none⟩ = false := (hk8.frozen (p := ⟨pg, 3, none⟩) (by have := HK7.out.size; have := HK5.out.size; simp at *; omega) HLv.out).trans (((Kept.alloc Nob w7 _).frozen (p := ⟨pg, 3, none⟩) (by have := HK7.out.size; have := HK5.out.size; simp at *; omega) (fun f => f)).trans ((HK7.out.frozen (p := ⟨pg, 3, none⟩) (by have := HK5.out.size; simp at *; omega) (fun f => f)).trans (((Kept.drew Nob w5).frozen (p := ⟨pg, 3, none⟩) (by have := HK5.out.size; simp at *; omega) (fun f => f)).trans f35))); have HO8 := Lib.hid ho8; have HK8 := Lib.hid hk8; clear ho8 hk8)
              | (go_simp; go_at_call 62; (with_reducible refine (HCl.out _ (Kept.drew Nob w5)).mono ?_); rintro e w7 ⟨b7, c7, rfl, ho7, hk7⟩; have hp7 : pg < w7.heap.size := (by have := hk7.size; have := HK5.out.size; simp at *; omega); have c37 : w7.cell? ⟨pg, 3, none⟩ = some (.slice la ss.length lc) := (hk7.cell (p := ⟨pg, 3, none⟩) (by have := HK5.out.size; simp at *; omega) (fun f => f)).trans (((Kept.drew Nob w5).cell (p := ⟨pg, 3, none⟩) (by have := HK5.out.size; simp at *; omega) (fun f => f)).trans c35); have f37 : w7.frozen? ⟨pg, 3, none⟩ = false := (hk7.frozen (p := ⟨pg, 3, none⟩) (by have := HK5.out.size; simp at *; omega) (fun f => f)).trans (((Kept.drew Nob w5).frozen (p := ⟨pg, 3, none⟩) (by have := HK5.out.size; simp at *; omega) (fun f => f)).trans f35); have HO7 := Lib.hid ho7; have HK7 := Lib.hid hk7; clear ho7 hk7))
            all_goals
              have HN := Lib.hid (ParseRel.more (u := .slice b7 mn c7) (s := some xs) hpg HDec.out HSs.out HPb.out HSo.out HLv.out HKr.out (((HK5.out.trans' (Kept.drew Nob w5)).trans' HK7.out).trans' (Kept.alloc Nob w7 _)) (show Reads _ _ _ _ from (HO7.out.reads.kept (Kept.alloc Nob w7 _) (fun _ _ f => f)).mono fun x hx hf => ⟨by have := HK5.out.size; have hf2 : w5.heap.size ≤ x := hf; omega, hx⟩) HO8.out HK8.out)
              go_wp2_with fail
              go_roundw
              case rel => exact ⟨j + 1, by omega, by go_num, HN.out⟩
              case measure => simp [intOf]; omega
    · have HJn : Hid (j = nn) := Lib.hid (by omega)
      have hcr : ∀ x, RowsOf w wr pg (.slice la ss.length lc) x → w.heap.size ≤ x ∧ x ≠ pg := fun x hx => ⟨hx.1, hx.2.2.1⟩
      have hsa : SlotsAt wr (.slice la ss.length lc) ss (fun x => w.heap.size ≤ x ∧ x ≠ pg) := ⟨us, HSo.out.1, OwnK.reads (show OwnK 2 wr _ _ _ _ (fun x => w.heap.size ≤ x ∧ x ≠ pg) from ⟨HSo.out.2.1.1, fun x hx => ⟨HSo.out.2.1.2 x hx, fun e => HLv.out (e ▸ hx)⟩⟩), fun i u s h1 h2 => (HSo.out.2.2 i u s h1 h2).mono fun x _ hx => hcr x hx⟩
      have HPa : Hid (PageAt wr pg (pageOf ys ss) (fun x => w.heap.size ≤ x ∧ x ≠ pg)) := Lib.hid ⟨.slice la ss.length lc, HPb.out, hsa, fun h => h.2 rfl⟩
      have HZ : Hid (Sized ss) := Lib.hid ⟨hsl60, fun s hs => Nat.le_trans (decSlots_sized _ _ HDec.out s hs) (by omega)⟩
      have HPp : Hid (parseOf ys = if pageMay ys ss then some (pageOf ys ss) else none) := Lib.hid (by rw [hPO.out, ← HJn.out, HDec.out]; rfl)
      obtain ⟨uo, huo⟩ : ∃ uo, usedOf ss = uo := ⟨_, rfl⟩
      have HUo := Lib.hid huo
      obtain ⟨mm, hmm⟩ : ∃ mm, decide (bytesOf (pageOf ys ss) = ys) = mm := ⟨_, rfl⟩
      have HMm := Lib.hid hmm
      clear huo hmm hcr
      by_cases h0 : ss.length = 0
      · have hlast : (!(ss.getLast? == some none)) = true := by rw [List.length_eq_zero_iff.1 h0]; rfl
        have HSA := Lib.hid hsa
        rw [h0] at c3 HSA
        have HC3 := Lib.hid c3
        have H0 := Lib.hid h0
        clear h0 hsa

        have HU : Hid (∀ W, Kept Nob wr W → Calls Tryz.prog 84 #[.slice la 0 lc] W fun e w' => e = .returned (.int .i64 (uo : Int)) ∧ Kept Nob W w') := Lib.hid fun W k => (slots_used W _ ss _ (HSA.out.kept k (fun _ _ f => f)) (by omega) (fun s hs => Nat.le_trans (HZ.out.2 s hs) (by omega))).mono fun e w' ⟨h1, h2⟩ => ⟨by rw [h1, HUo.out], h2⟩
        by_cases hbig : 512 < uo
        · have HNo : Hid (parseOf ys = none) := Lib.hid (by rw [HPp.out, if_neg]; intro hq; simp only [pageMay, Bool.and_eq_true, decide_eq_true_eq] at hq; have := HUo.out; omega)
          have hbi : decide ((512 : Int) < (uo : Int)) = true := decide_eq_true (by omega)
          go_wp2_with fail
          refine wp_region_held_drew (S := (fun w' => w'.cell? ⟨pg, 3, none⟩ = some (.slice la 0 lc))) (by kernel_rfl) ?_ (fun hHeld => ?_)
          · assumption
          refine take_in (v := ?_) 0 (some 91) ?_ ?_
          case refine_2 => intro w hSw; go_simp; try with_reducible rfl
          try simp only [putS]
          refine take_in (v := ?_) 1 (some 92) ?_ ?_
          case refine_2 => intro w hSw; go_simp; try with_reducible rfl
          try simp only [putS]
          refine take_in (v := ?_) 2 (some 93) ?_ ?_
          case refine_2 => intro w hSw; go_simp; try with_reducible rfl
          try simp only [putS]
          refine take_in (v := ?_) 3 (some 94) ?_ ?_
          case refine_2 => intro w hSw; go_simp; try with_reducible rfl
          try simp only [putS]
          refine take_in (v := ?_) 4 (some 95) ?_ ?_
          case refine_2 => intro w hSw; go_simp; try with_reducible rfl
          try simp only [putS]
          refine take_in (v := ?_) 5 (some 96) ?_ ?_
          case refine_2 => intro w hSw; go_simp; try with_reducible rfl
          try simp only [putS]
          refine take_in (v := ?_) 6 (some 97) ?_ ?_
          case refine_2 => intro w hSw; go_simp; try with_reducible rfl
          try simp only [putS]
          refine take_no 7 (some 98) ?_
          try simp only [putS]
          refine take_no 8 (some 99) ?_
          try simp only [putS]
          refine take_no 9 (some 100) ?_
          try simp only [putS]
          refine take_no 10 (some 101) ?_
          try simp only [putS]
          refine take_no 11 (some 102) ?_
          try simp only [putS]
          refine take_no 12 (some 103) ?_
          try simp only [putS]
          refine take_no 13 (some 104) ?_
          try simp only [putS]
          refine take_no 14 (some 105) ?_
          try simp only [putS]
          refine take_no 15 (some 106) ?_
          try simp only [putS]
          refine take_no 16 (some 107) ?_
          try simp only [putS]
          refine take_no 17 (some 108) ?_
          try simp only [putS]
          refine take_no 18 (some 109) ?_
          try simp only [putS]
          refine take_no 19 (some 110) ?_
          try simp only [putS]
          refine take_no 20 (some 111) ?_
          try simp only [putS]
          refine take_in (v := ?_) 21 (some 112) ?_ ?_
          case refine_2 => intro w hSw; go_simp; try with_reducible rfl
          try simp only [putS]
          refine take_in (v := ?_) 22 (some 113) ?_ ?_
          case refine_2 => intro w hSw; go_simp; try with_reducible rfl
          try simp only [putS]
          refine take_in (v := ?_) 23 (some 114) ?_ ?_
          case refine_2 => intro w hSw; go_simp; try with_reducible rfl
          try simp only [putS]
          refine take_in (v := ?_) 24 (some 115) ?_ ?_
          case refine_2 => intro w hSw; go_simp; try with_reducible rfl
          try simp only [putS]
          refine take_in (v := ?_) 25 (some 116) ?_ ?_
          case refine_2 => intro w hSw; go_simp; try with_reducible rfl
          try simp only [putS]
          refine take_in (v := ?_) 26 (some 117) ?_ ?_
          case refine_2 => intro w hSw; go_simp; try with_reducible rfl
          try simp only [putS]
          refine wpAnyH_ready (rs := [27]) (by kernel_rfl) (by simp) ?_
          refine AllReadyH.cons (o := _) rfl (fun K hK => ?_) AllReadyH.nil
          go_simp
          go_at_call 84; (with_reducible refine (HU.out _ (Kept.drew Nob wr)).mono ?_); rintro e w3 ⟨rfl, hk3⟩; have HK3 := Lib.hid ((HKr.out.trans' (Kept.drew Nob wr)).trans' hk3); have c3 : w3.cell? ⟨pg, 3, none⟩ = some (.slice la 0 lc) := (hk3.cell (p := ⟨pg, 3, none⟩) hpl (fun f => f)).trans HC3.out; clear hk3
          try go_wp2_with fail
          refine hK.out _ _ (by assumption) (fun hHeld => ?_)
          clear hK K
          try simp only [putS]
          refine take_in (v := ?_) 28 (some 119) ?_ ?_
          case refine_2 => intro w hSw; go_simp; try with_reducible rfl
          try simp only [putS]
          refine take_in (v := ?_) 29 (some 120) ?_ ?_
          case refine_2 => intro w hSw; go_simp; try with_reducible rfl
          try simp only [putS]
          refine take_in (v := ?_) 30 (some 121) ?_ ?_
          case refine_2 => intro w hSw; go_simp; try with_reducible rfl
          try simp only [putS]
          refine take_no 31 (some 122) ?_
          try simp only [putS]
          refine take_no 32 (some 123) ?_
          try simp only [putS]
          refine take_no 33 (some 124) ?_
          try simp only [putS]
          refine take_no 34 (some 125) ?_
          try simp only [putS]
          refine take_no 35 (some 126) ?_
          try simp only [putS]
          refine take_in (v := ?_) 36 (some 127) ?_ ?_
          case refine_2 => intro w hSw; go_simp; try with_reducible rfl
          try simp only [putS]
          refine wpAnyH_done (by kernel_rfl) ?_ _
          go_wp2_with fail
          go_ret
          exact ⟨fun _ => ⟨rfl, HK3.out⟩, fun p hp => by rw [HNo.out] at hp; cases hp⟩
        · have hbi : decide ((512 : Int) < (uo : Int)) = false := decide_eq_false (by omega)
          have HBt : Hid (∀ W, Kept Nob wr W → Calls Tryz.prog 51 #[.pointer (some ⟨pg, 0, none⟩)] W fun e w' => ∃ g, e = .returned (.slice (some ⟨g, 0, none⟩) 512 512) ∧ Reads w' (.slice (some ⟨g, 0, none⟩) 512 512) ((bytesOf (pageOf ys ss)).map (Value.int .u8)) (fun _ => True) ∧ Kept Nob W w') :=
            Lib.hid fun W k => (page_bytes W pg (pageOf ys ss) _ (HPa.out.kept k (fun f => f) (fun _ _ f => f)) HZ.out (by have := HUo.out; show usedOf ss ≤ 512; omega)).mono fun e w' ⟨g, h1, h2, h3⟩ => ⟨g, h1, h2.reads.mono fun _ _ _ => trivial, h3⟩
          have HEq : Hid (∀ W g, Reads W (.slice (some ⟨g, 0, none⟩) 512 512) ((bytesOf (pageOf ys ss)).map (Value.int .u8)) (fun _ => True) → Kept Nob wr W → Calls Tryz.prog 113 #[.slice (some ⟨g, 0, none⟩) 512 512, .slice (some ⟨b, o, none⟩) 512 vc] W fun e w' => e = .returned (.bool mm) ∧ Kept Nob W w') :=
            Lib.hid fun W g h1 k => (equal_bytes W _ _ _ _ _ _ h1 (HV.out.kept (HKr.out.trans' k) (fun _ _ f => f)) (by have := Reads.len h1; rw [List.length_map] at this; omega)).mono fun e w' ⟨h2, n, h3⟩ => ⟨by rw [h2, HMm.out], h3 ▸ Kept.drewN _ _ _⟩
          go_wp2_with fail
          refine wp_region_held_drew (S := (fun w' => w'.cell? ⟨pg, 3, none⟩ = some (.slice la 0 lc))) (by kernel_rfl) ?_ (fun hHeld => ?_)
          · assumption
          refine take_in (v := ?_) 0 (some 91) ?_ ?_
          case refine_2 => intro w hSw; go_simp; try with_reducible rfl
          try simp only [putS]
          refine take_in (v := ?_) 1 (some 92) ?_ ?_
          case refine_2 => intro w hSw; go_simp; try with_reducible rfl
          try simp only [putS]
          refine take_in (v := ?_) 2 (some 93) ?_ ?_
          case refine_2 => intro w hSw; go_simp; try with_reducible rfl
          try simp only [putS]
          refine take_in (v := ?_) 3 (some 94) ?_ ?_
          case refine_2 => intro w hSw; go_simp; try with_reducible rfl
          try simp only [putS]
          refine take_in (v := ?_) 4 (some 95) ?_ ?_
          case refine_2 => intro w hSw; go_simp; try with_reducible rfl
          try simp only [putS]
          refine take_in (v := ?_) 5 (some 96) ?_ ?_
          case refine_2 => intro w hSw; go_simp; try with_reducible rfl
          try simp only [putS]
          refine take_in (v := ?_) 6 (some 97) ?_ ?_
          case refine_2 => intro w hSw; go_simp; try with_reducible rfl
          try simp only [putS]
          refine take_no 7 (some 98) ?_
          try simp only [putS]
          refine take_no 8 (some 99) ?_
          try simp only [putS]
          refine take_no 9 (some 100) ?_
          try simp only [putS]
          refine take_no 10 (some 101) ?_
          try simp only [putS]
          refine take_no 11 (some 102) ?_
          try simp only [putS]
          refine take_no 12 (some 103) ?_
          try simp only [putS]
          refine take_no 13 (some 104) ?_
          try simp only [putS]
          refine take_no 14 (some 105) ?_
          try simp only [putS]
          refine take_no 15 (some 106) ?_
          try simp only [putS]
          refine take_no 16 (some 107) ?_
          try simp only [putS]
          refine take_no 17 (some 108) ?_
          try simp only [putS]
          refine take_no 18 (some 109) ?_
          try simp only [putS]
          refine take_no 19 (some 110) ?_
          try simp only [putS]
          refine take_no 20 (some 111) ?_
          try simp only [putS]
          refine take_in (v := ?_) 21 (some 112) ?_ ?_
          case refine_2 => intro w hSw; go_simp; try with_reducible rfl
          try simp only [putS]
          refine take_in (v := ?_) 22 (some 113) ?_ ?_
          case refine_2 => intro w hSw; go_simp; try with_reducible rfl
          try simp only [putS]
          refine take_in (v := ?_) 23 (some 114) ?_ ?_
          case refine_2 => intro w hSw; go_simp; try with_reducible rfl
          try simp only [putS]
          refine take_in (v := ?_) 24 (some 115) ?_ ?_
          case refine_2 => intro w hSw; go_simp; try with_reducible rfl
          try simp only [putS]
          refine take_in (v := ?_) 25 (some 116) ?_ ?_
          case refine_2 => intro w hSw; go_simp; try with_reducible rfl
          try simp only [putS]
          refine take_in (v := ?_) 26 (some 117) ?_ ?_
          case refine_2 => intro w hSw; go_simp; try with_reducible rfl
          try simp only [putS]
          refine wpAnyH_ready (rs := [27]) (by kernel_rfl) (by simp) ?_
          refine AllReadyH.cons (o := _) rfl (fun K hK => ?_) AllReadyH.nil
          go_simp
          go_at_call 84; (with_reducible refine (HU.out _ (Kept.drew Nob wr)).mono ?_); rintro e w3 ⟨rfl, hk3⟩; have HK3 := Lib.hid ((Kept.drew Nob wr).trans' hk3); have c3 : w3.cell? ⟨pg, 3, none⟩ = some (.slice la 0 lc) := (hk3.cell (p := ⟨pg, 3, none⟩) hpl (fun f => f)).trans HC3.out; clear hk3
          try go_wp2_with fail
          refine hK.out _ _ (by assumption) (fun hHeld => ?_)
          clear hK K
          try simp only [putS]
          refine take_in (v := ?_) 28 (some 119) ?_ ?_
          case refine_2 => intro w hSw; go_simp; try with_reducible rfl
          try simp only [putS]
          refine take_in (v := ?_) 29 (some 120) ?_ ?_
          case refine_2 => intro w hSw; go_simp; try with_reducible rfl
          try simp only [putS]
          refine take_in (v := ?_) 30 (some 121) ?_ ?_
          case refine_2 => intro w hSw; go_simp; try with_reducible rfl
          try simp only [putS]
          refine take_in (v := ?_) 31 (some 122) ?_ ?_
          case refine_2 => intro w hSw; go_simp; try with_reducible rfl
          try simp only [putS]
          refine take_in (v := ?_) 33 (some 124) ?_ ?_
          case refine_2 => intro w hSw; go_simp; try with_reducible rfl
          try simp only [putS]
          refine wpAnyH_ready (rs := [32]) (by kernel_rfl) (by simp) ?_
          refine AllReadyH.cons (o := _) rfl (fun K hK => ?_) AllReadyH.nil
          go_simp
          go_at_call 51; (with_reducible refine (HBt.out _ HK3.out).mono ?_); rintro e w4 ⟨g4, rfl, hr4, hk4⟩; have HK4 := Lib.hid (HK3.out.trans' hk4); have HR4 := Lib.hid hr4; have c3 : w4.cell? ⟨pg, 3, none⟩ = some (.slice la 0 lc) := (HK4.out.cell (p := ⟨pg, 3, none⟩) hpl (fun f => f)).trans HC3.out; clear hk4 hr4
          try go_wp2_with fail
          refine hK.out _ _ (by assumption) (fun hHeld => ?_)
          clear hK K
          try simp only [putS]
          refine wpAnyH_ready (rs := [34]) (by kernel_rfl) (by simp) ?_
          refine AllReadyH.cons (o := _) rfl (fun K hK => ?_) AllReadyH.nil
          go_simp
          go_at_call 113; (with_reducible refine (HEq.out _ _ HR4.out HK4.out).mono ?_); rintro e w5 ⟨rfl, hk5⟩; have HK5 := Lib.hid (HK4.out.trans' hk5); have c3 : w5.cell? ⟨pg, 3, none⟩ = some (.slice la 0 lc) := (HK5.out.cell (p := ⟨pg, 3, none⟩) hpl (fun f => f)).trans HC3.out; clear hk5
          try go_wp2_with fail
          refine hK.out _ _ (by assumption) (fun hHeld => ?_)
          clear hK K
          try simp only [putS]
          refine take_in (v := ?_) 35 (some 126) ?_ ?_
          case refine_2 => intro w hSw; go_simp; try with_reducible rfl
          try simp only [putS]
          refine take_in (v := ?_) 36 (some 127) ?_ ?_
          case refine_2 => intro w hSw; go_simp; try with_reducible rfl
          try simp only [putS]
          refine wpAnyH_done (by kernel_rfl) ?_ _
          have HLs := Lib.hid hlast
          have HBi := Lib.hid hbig
          clear hlast hbig
          cases mm with
          | false =>
            have HNo : Hid (parseOf ys = none) := Lib.hid (by rw [HPp.out, if_neg]; intro hq; simp only [pageMay, Bool.and_eq_true, HMm.out] at hq; exact absurd hq.2 (by decide))
            go_wp2_with fail
            go_ret
            exact ⟨fun _ => ⟨rfl, HKr.out.trans' HK5.out⟩, fun p hp => by rw [HNo.out] at hp; cases hp⟩
          | true =>
            have HYs : Hid (parseOf ys = some (pageOf ys ss)) := Lib.hid (by rw [HPp.out, if_pos]; rw [pageMay, HMm.out, HLs.out, Bool.true_and, Bool.and_true, decide_eq_true_eq]; have := HUo.out; have := HBi.out; omega)
            go_wp2_with fail
            go_ret
            exact ⟨fun hp => (by rw [HYs.out] at hp; cases hp), fun p hp => by rw [HYs.out] at hp; cases hp; exact ⟨pg, rfl, hpg, HPa.out.kept HK5.out (fun f => f) (fun _ _ f => f), HKr.out.trans' HK5.out⟩⟩

      · obtain ⟨k, hk⟩ : ∃ k, ss.length = k + 1 := ⟨ss.length - 1, by omega⟩
        have hgl : ss.getLast? = ss[k]? := by rw [List.getLast?_eq_getElem?, hk]; rfl
        obtain ⟨sb, so, uu, rfl, -, hsb, -, -, y1, -⟩ := SlotsAt.at hsa (i := k) (by omega)
        have hgk : ss[k]? = some (ss[k]'(by omega)) := List.getElem?_eq_getElem (by omega)
        rw [hgk] at hgl
        obtain ⟨last, hla⟩ : ∃ last, ss[k]'(by omega) = last := ⟨_, rfl⟩
        rw [hla] at hgl y1
        have HSA := Lib.hid hsa
        rw [hk] at c3 HSA
        have HC3 := Lib.hid c3
        have HGl := Lib.hid hgl
        have HK := Lib.hid hk
        have hwk : IntKind.i64.wrap (k : Int) = k := IntWalk.i64_in _ ⟨by omega, by omega⟩
        clear h0 hsa hgl hgk hla hk
        cases last with
        | none =>
          have HNo : Hid (parseOf ys = none) := Lib.hid (by rw [HPp.out, if_neg]; intro hq; simp [pageMay, HGl.out] at hq)
          rw [Option.isSome_none] at y1
          go_wp2_with fail
          go_region
          go_wp2_with fail
          go_ret
          exact ⟨fun _ => ⟨rfl, HKr.out.trans' (Kept.drew Nob wr)⟩, fun p hp => by rw [HNo.out] at hp; cases hp⟩
        | some bl =>
        rw [Option.isSome_some] at y1
        have HY1 := Lib.hid y1
        have hlast : (!(ss.getLast? == some none)) = true := by rw [HGl.out]; rfl

        have HU : Hid (∀ W, Kept Nob wr W → Calls Tryz.prog 84 #[.slice (some ⟨sb, so, none⟩) (k + 1) lc] W fun e w' => e = .returned (.int .i64 (uo : Int)) ∧ Kept Nob W w') := Lib.hid fun W k => (slots_used W _ ss _ (HSA.out.kept k (fun _ _ f => f)) (by omega) (fun s hs => Nat.le_trans (HZ.out.2 s hs) (by omega))).mono fun e w' ⟨h1, h2⟩ => ⟨by rw [h1, HUo.out], h2⟩
        by_cases hbig : 512 < uo
        · have HNo : Hid (parseOf ys = none) := Lib.hid (by rw [HPp.out, if_neg]; intro hq; simp only [pageMay, Bool.and_eq_true, decide_eq_true_eq] at hq; have := HUo.out; omega)
          have hbi : decide ((512 : Int) < (uo : Int)) = true := decide_eq_true (by omega)
          go_wp2_with fail
          have hk0 : (0 : Int) ≤ (k : Int) := by omega
          have hk1 : (k : Int) < (k : Int) + 1 := by omega
          refine wp_region_held_drew (S := (fun w' => w'.cell? ⟨pg, 3, none⟩ = some (.slice (some ⟨sb, so, none⟩) (k + 1) lc) ∧ w'.cell? ⟨sb, so + k * 2 + 1, none⟩ = some (.bool true))) (by kernel_rfl) ?_ (fun hHeld => ?_)
          · exact ⟨by assumption, by assumption⟩
          refine take_in (v := ?_) 0 (some 91) ?_ ?_
          case refine_2 => (intro w hSw; (try dsimp only at hSw); (have hSw1 := hSw.1); (have hSw2 := hSw.2); (clear hSw); go_simp; try with_reducible rfl)
          try simp only [putS]
          refine take_in (v := ?_) 1 (some 92) ?_ ?_
          case refine_2 => (intro w hSw; (try dsimp only at hSw); (have hSw1 := hSw.1); (have hSw2 := hSw.2); (clear hSw); go_simp; try with_reducible rfl)
          try simp only [putS]
          refine take_in (v := ?_) 2 (some 93) ?_ ?_
          case refine_2 => (intro w hSw; (try dsimp only at hSw); (have hSw1 := hSw.1); (have hSw2 := hSw.2); (clear hSw); go_simp; try with_reducible rfl)
          try simp only [putS]
          refine take_in (v := ?_) 3 (some 94) ?_ ?_
          case refine_2 => (intro w hSw; (try dsimp only at hSw); (have hSw1 := hSw.1); (have hSw2 := hSw.2); (clear hSw); go_simp; try with_reducible rfl)
          try simp only [putS]
          refine take_in (v := ?_) 4 (some 95) ?_ ?_
          case refine_2 => (intro w hSw; (try dsimp only at hSw); (have hSw1 := hSw.1); (have hSw2 := hSw.2); (clear hSw); go_simp; try with_reducible rfl)
          try simp only [putS]
          refine take_in (v := ?_) 5 (some 96) ?_ ?_
          case refine_2 => (intro w hSw; (try dsimp only at hSw); (have hSw1 := hSw.1); (have hSw2 := hSw.2); (clear hSw); go_simp; try with_reducible rfl)
          try simp only [putS]
          refine take_in (v := ?_) 6 (some 97) ?_ ?_
          case refine_2 => (intro w hSw; (try dsimp only at hSw); (have hSw1 := hSw.1); (have hSw2 := hSw.2); (clear hSw); go_simp; try with_reducible rfl)
          try simp only [putS]
          refine take_in (v := ?_) 7 (some 98) ?_ ?_
          case refine_2 => (intro w hSw; (try dsimp only at hSw); (have hSw1 := hSw.1); (have hSw2 := hSw.2); (clear hSw); go_simp; try with_reducible rfl)
          try simp only [putS]
          refine take_in (v := ?_) 8 (some 99) ?_ ?_
          case refine_2 => (intro w hSw; (try dsimp only at hSw); (have hSw1 := hSw.1); (have hSw2 := hSw.2); (clear hSw); go_simp; try with_reducible rfl)
          try simp only [putS]
          refine take_in (v := ?_) 9 (some 100) ?_ ?_
          case refine_2 => (intro w hSw; (try dsimp only at hSw); (have hSw1 := hSw.1); (have hSw2 := hSw.2); (clear hSw); go_simp; try with_reducible rfl)
          try simp only [putS]
          refine take_in (v := ?_) 10 (some 101) ?_ ?_
          case refine_2 => (intro w hSw; (try dsimp only at hSw); (have hSw1 := hSw.1); (have hSw2 := hSw.2); (clear hSw); go_simp; try with_reducible rfl)
          try simp only [putS]
          refine take_in (v := ?_) 11 (some 102) ?_ ?_
          case refine_2 => (intro w hSw; (try dsimp only at hSw); (have hSw1 := hSw.1); (have hSw2 := hSw.2); (clear hSw); go_simp; try with_reducible rfl)
          try simp only [putS]
          refine take_in (v := ?_) 12 (some 103) ?_ ?_
          case refine_2 => (intro w hSw; (try dsimp only at hSw); (have hSw1 := hSw.1); (have hSw2 := hSw.2); (clear hSw); go_simp; try with_reducible rfl)
          try simp only [putS]
          refine take_in (v := ?_) 13 (some 104) ?_ ?_
          case refine_2 => (intro w hSw; (try dsimp only at hSw); (have hSw1 := hSw.1); (have hSw2 := hSw.2); (clear hSw); go_simp; try with_reducible rfl)
          try simp only [putS]
          refine take_in (v := ?_) 14 (some 105) ?_ ?_
          case refine_2 => (intro w hSw; (try dsimp only at hSw); (have hSw1 := hSw.1); (have hSw2 := hSw.2); (clear hSw); go_simp; try with_reducible rfl)
          try simp only [putS]
          refine take_in (v := ?_) 15 (some 106) ?_ ?_
          case refine_2 => (intro w hSw; (try dsimp only at hSw); (have hSw1 := hSw.1); (have hSw2 := hSw.2); (clear hSw); go_simp; try with_reducible rfl)
          try simp only [putS]
          refine take_in (v := ?_) 16 (some 107) ?_ ?_
          case refine_2 => (intro w hSw; (try dsimp only at hSw); (have hSw1 := hSw.1); (have hSw2 := hSw.2); (clear hSw); go_simp; try with_reducible rfl)
          try simp only [putS]
          refine take_in (v := ?_) 17 (some 108) ?_ ?_
          case refine_2 => (intro w hSw; (try dsimp only at hSw); (have hSw1 := hSw.1); (have hSw2 := hSw.2); (clear hSw); go_simp; try with_reducible rfl)
          try simp only [putS]
          refine take_in (v := ?_) 18 (some 109) ?_ ?_
          case refine_2 => (intro w hSw; (try dsimp only at hSw); (have hSw1 := hSw.1); (have hSw2 := hSw.2); (clear hSw); go_simp; try with_reducible rfl)
          try simp only [putS]
          refine take_in (v := ?_) 19 (some 110) ?_ ?_
          case refine_2 => (intro w hSw; (try dsimp only at hSw); (have hSw1 := hSw.1); (have hSw2 := hSw.2); (clear hSw); go_simp; try with_reducible rfl)
          try simp only [putS]
          refine take_in (v := ?_) 20 (some 111) ?_ ?_
          case refine_2 => (intro w hSw; (try dsimp only at hSw); (have hSw1 := hSw.1); (have hSw2 := hSw.2); (clear hSw); go_simp; try with_reducible rfl)
          try simp only [putS]
          refine take_in (v := ?_) 21 (some 112) ?_ ?_
          case refine_2 => (intro w hSw; (try dsimp only at hSw); (have hSw1 := hSw.1); (have hSw2 := hSw.2); (clear hSw); go_simp; try with_reducible rfl)
          try simp only [putS]
          refine take_in (v := ?_) 22 (some 113) ?_ ?_
          case refine_2 => (intro w hSw; (try dsimp only at hSw); (have hSw1 := hSw.1); (have hSw2 := hSw.2); (clear hSw); go_simp; try with_reducible rfl)
          try simp only [putS]
          refine take_in (v := ?_) 23 (some 114) ?_ ?_
          case refine_2 => (intro w hSw; (try dsimp only at hSw); (have hSw1 := hSw.1); (have hSw2 := hSw.2); (clear hSw); go_simp; try with_reducible rfl)
          try simp only [putS]
          refine take_in (v := ?_) 24 (some 115) ?_ ?_
          case refine_2 => (intro w hSw; (try dsimp only at hSw); (have hSw1 := hSw.1); (have hSw2 := hSw.2); (clear hSw); go_simp; try with_reducible rfl)
          try simp only [putS]
          refine take_in (v := ?_) 25 (some 116) ?_ ?_
          case refine_2 => (intro w hSw; (try dsimp only at hSw); (have hSw1 := hSw.1); (have hSw2 := hSw.2); (clear hSw); go_simp; try with_reducible rfl)
          try simp only [putS]
          refine take_in (v := ?_) 26 (some 117) ?_ ?_
          case refine_2 => (intro w hSw; (try dsimp only at hSw); (have hSw1 := hSw.1); (have hSw2 := hSw.2); (clear hSw); go_simp; try with_reducible rfl)
          try simp only [putS]
          refine wpAnyH_ready (rs := [27]) (by kernel_rfl) (by simp) ?_
          refine AllReadyH.cons (o := _) rfl (fun K hK => ?_) AllReadyH.nil
          go_simp
          go_at_call 84; (with_reducible refine (HU.out _ (Kept.drew Nob wr)).mono ?_); rintro e w3 ⟨rfl, hk3⟩; have HK3 := Lib.hid ((HKr.out.trans' (Kept.drew Nob wr)).trans' hk3); have c3 : w3.cell? ⟨pg, 3, none⟩ = some (.slice (some ⟨sb, so, none⟩) (k + 1) lc) := (hk3.cell (p := ⟨pg, 3, none⟩) hpl (fun f => f)).trans HC3.out; have y1 : w3.cell? ⟨sb, so + k * 2 + 1, none⟩ = some (.bool true) := (hk3.cell (p := ⟨sb, so + k * 2 + 1, none⟩) hsb (fun f => f)).trans HY1.out; clear hk3
          try go_wp2_with fail
          refine hK.out _ _ ⟨by assumption, by assumption⟩ (fun hHeld => ?_)
          clear hK K
          try simp only [putS]
          refine take_in (v := ?_) 28 (some 119) ?_ ?_
          case refine_2 => (intro w hSw; (try dsimp only at hSw); (have hSw1 := hSw.1); (have hSw2 := hSw.2); (clear hSw); go_simp; try with_reducible rfl)
          try simp only [putS]
          refine take_in (v := ?_) 29 (some 120) ?_ ?_
          case refine_2 => (intro w hSw; (try dsimp only at hSw); (have hSw1 := hSw.1); (have hSw2 := hSw.2); (clear hSw); go_simp; try with_reducible rfl)
          try simp only [putS]
          refine take_in (v := ?_) 30 (some 121) ?_ ?_
          case refine_2 => (intro w hSw; (try dsimp only at hSw); (have hSw1 := hSw.1); (have hSw2 := hSw.2); (clear hSw); go_simp; try with_reducible rfl)
          try simp only [putS]
          refine take_no 31 (some 122) ?_
          try simp only [putS]
          refine take_no 32 (some 123) ?_
          try simp only [putS]
          refine take_no 33 (some 124) ?_
          try simp only [putS]
          refine take_no 34 (some 125) ?_
          try simp only [putS]
          refine take_no 35 (some 126) ?_
          try simp only [putS]
          refine take_in (v := ?_) 36 (some 127) ?_ ?_
          case refine_2 => (intro w hSw; (try dsimp only at hSw); (have hSw1 := hSw.1); (have hSw2 := hSw.2); (clear hSw); go_simp; try with_reducible rfl)
          try simp only [putS]
          refine wpAnyH_done (by kernel_rfl) ?_ _
          go_wp2_with fail
          go_ret
          exact ⟨fun _ => ⟨rfl, HK3.out⟩, fun p hp => by rw [HNo.out] at hp; cases hp⟩
        · have hbi : decide ((512 : Int) < (uo : Int)) = false := decide_eq_false (by omega)
          have HBt : Hid (∀ W, Kept Nob wr W → Calls Tryz.prog 51 #[.pointer (some ⟨pg, 0, none⟩)] W fun e w' => ∃ g, e = .returned (.slice (some ⟨g, 0, none⟩) 512 512) ∧ Reads w' (.slice (some ⟨g, 0, none⟩) 512 512) ((bytesOf (pageOf ys ss)).map (Value.int .u8)) (fun _ => True) ∧ Kept Nob W w') :=
            Lib.hid fun W k => (page_bytes W pg (pageOf ys ss) _ (HPa.out.kept k (fun f => f) (fun _ _ f => f)) HZ.out (by have := HUo.out; show usedOf ss ≤ 512; omega)).mono fun e w' ⟨g, h1, h2, h3⟩ => ⟨g, h1, h2.reads.mono fun _ _ _ => trivial, h3⟩
          have HEq : Hid (∀ W g, Reads W (.slice (some ⟨g, 0, none⟩) 512 512) ((bytesOf (pageOf ys ss)).map (Value.int .u8)) (fun _ => True) → Kept Nob wr W → Calls Tryz.prog 113 #[.slice (some ⟨g, 0, none⟩) 512 512, .slice (some ⟨b, o, none⟩) 512 vc] W fun e w' => e = .returned (.bool mm) ∧ Kept Nob W w') :=
            Lib.hid fun W g h1 k => (equal_bytes W _ _ _ _ _ _ h1 (HV.out.kept (HKr.out.trans' k) (fun _ _ f => f)) (by have := Reads.len h1; rw [List.length_map] at this; omega)).mono fun e w' ⟨h2, n, h3⟩ => ⟨by rw [h2, HMm.out], h3 ▸ Kept.drewN _ _ _⟩
          go_wp2_with fail
          have hk0 : (0 : Int) ≤ (k : Int) := by omega
          have hk1 : (k : Int) < (k : Int) + 1 := by omega
          refine wp_region_held_drew (S := (fun w' => w'.cell? ⟨pg, 3, none⟩ = some (.slice (some ⟨sb, so, none⟩) (k + 1) lc) ∧ w'.cell? ⟨sb, so + k * 2 + 1, none⟩ = some (.bool true))) (by kernel_rfl) ?_ (fun hHeld => ?_)
          · exact ⟨by assumption, by assumption⟩
          refine take_in (v := ?_) 0 (some 91) ?_ ?_
          case refine_2 => (intro w hSw; (try dsimp only at hSw); (have hSw1 := hSw.1); (have hSw2 := hSw.2); (clear hSw); go_simp; try with_reducible rfl)
          try simp only [putS]
          refine take_in (v := ?_) 1 (some 92) ?_ ?_
          case refine_2 => (intro w hSw; (try dsimp only at hSw); (have hSw1 := hSw.1); (have hSw2 := hSw.2); (clear hSw); go_simp; try with_reducible rfl)
          try simp only [putS]
          refine take_in (v := ?_) 2 (some 93) ?_ ?_
          case refine_2 => (intro w hSw; (try dsimp only at hSw); (have hSw1 := hSw.1); (have hSw2 := hSw.2); (clear hSw); go_simp; try with_reducible rfl)
          try simp only [putS]
          refine take_in (v := ?_) 3 (some 94) ?_ ?_
          case refine_2 => (intro w hSw; (try dsimp only at hSw); (have hSw1 := hSw.1); (have hSw2 := hSw.2); (clear hSw); go_simp; try with_reducible rfl)
          try simp only [putS]
          refine take_in (v := ?_) 4 (some 95) ?_ ?_
          case refine_2 => (intro w hSw; (try dsimp only at hSw); (have hSw1 := hSw.1); (have hSw2 := hSw.2); (clear hSw); go_simp; try with_reducible rfl)
          try simp only [putS]
          refine take_in (v := ?_) 5 (some 96) ?_ ?_
          case refine_2 => (intro w hSw; (try dsimp only at hSw); (have hSw1 := hSw.1); (have hSw2 := hSw.2); (clear hSw); go_simp; try with_reducible rfl)
          try simp only [putS]
          refine take_in (v := ?_) 6 (some 97) ?_ ?_
          case refine_2 => (intro w hSw; (try dsimp only at hSw); (have hSw1 := hSw.1); (have hSw2 := hSw.2); (clear hSw); go_simp; try with_reducible rfl)
          try simp only [putS]
          refine take_in (v := ?_) 7 (some 98) ?_ ?_
          case refine_2 => (intro w hSw; (try dsimp only at hSw); (have hSw1 := hSw.1); (have hSw2 := hSw.2); (clear hSw); go_simp; try with_reducible rfl)
          try simp only [putS]
          refine take_in (v := ?_) 8 (some 99) ?_ ?_
          case refine_2 => (intro w hSw; (try dsimp only at hSw); (have hSw1 := hSw.1); (have hSw2 := hSw.2); (clear hSw); go_simp; try with_reducible rfl)
          try simp only [putS]
          refine take_in (v := ?_) 9 (some 100) ?_ ?_
          case refine_2 => (intro w hSw; (try dsimp only at hSw); (have hSw1 := hSw.1); (have hSw2 := hSw.2); (clear hSw); go_simp; try with_reducible rfl)
          try simp only [putS]
          refine take_in (v := ?_) 10 (some 101) ?_ ?_
          case refine_2 => (intro w hSw; (try dsimp only at hSw); (have hSw1 := hSw.1); (have hSw2 := hSw.2); (clear hSw); go_simp; try with_reducible rfl)
          try simp only [putS]
          refine take_in (v := ?_) 11 (some 102) ?_ ?_
          case refine_2 => (intro w hSw; (try dsimp only at hSw); (have hSw1 := hSw.1); (have hSw2 := hSw.2); (clear hSw); go_simp; try with_reducible rfl)
          try simp only [putS]
          refine take_in (v := ?_) 12 (some 103) ?_ ?_
          case refine_2 => (intro w hSw; (try dsimp only at hSw); (have hSw1 := hSw.1); (have hSw2 := hSw.2); (clear hSw); go_simp; try with_reducible rfl)
          try simp only [putS]
          refine take_in (v := ?_) 13 (some 104) ?_ ?_
          case refine_2 => (intro w hSw; (try dsimp only at hSw); (have hSw1 := hSw.1); (have hSw2 := hSw.2); (clear hSw); go_simp; try with_reducible rfl)
          try simp only [putS]
          refine take_in (v := ?_) 14 (some 105) ?_ ?_
          case refine_2 => (intro w hSw; (try dsimp only at hSw); (have hSw1 := hSw.1); (have hSw2 := hSw.2); (clear hSw); go_simp; try with_reducible rfl)
          try simp only [putS]
          refine take_in (v := ?_) 15 (some 106) ?_ ?_
          case refine_2 => (intro w hSw; (try dsimp only at hSw); (have hSw1 := hSw.1); (have hSw2 := hSw.2); (clear hSw); go_simp; try with_reducible rfl)
          try simp only [putS]
          refine take_in (v := ?_) 16 (some 107) ?_ ?_
          case refine_2 => (intro w hSw; (try dsimp only at hSw); (have hSw1 := hSw.1); (have hSw2 := hSw.2); (clear hSw); go_simp; try with_reducible rfl)
          try simp only [putS]
          refine take_in (v := ?_) 17 (some 108) ?_ ?_
          case refine_2 => (intro w hSw; (try dsimp only at hSw); (have hSw1 := hSw.1); (have hSw2 := hSw.2); (clear hSw); go_simp; try with_reducible rfl)
          try simp only [putS]
          refine take_in (v := ?_) 18 (some 109) ?_ ?_
          case refine_2 => (intro w hSw; (try dsimp only at hSw); (have hSw1 := hSw.1); (have hSw2 := hSw.2); (clear hSw); go_simp; try with_reducible rfl)
          try simp only [putS]
          refine take_in (v := ?_) 19 (some 110) ?_ ?_
          case refine_2 => (intro w hSw; (try dsimp only at hSw); (have hSw1 := hSw.1); (have hSw2 := hSw.2); (clear hSw); go_simp; try with_reducible rfl)
          try simp only [putS]
          refine take_in (v := ?_) 20 (some 111) ?_ ?_
          case refine_2 => (intro w hSw; (try dsimp only at hSw); (have hSw1 := hSw.1); (have hSw2 := hSw.2); (clear hSw); go_simp; try with_reducible rfl)
          try simp only [putS]
          refine take_in (v := ?_) 21 (some 112) ?_ ?_
          case refine_2 => (intro w hSw; (try dsimp only at hSw); (have hSw1 := hSw.1); (have hSw2 := hSw.2); (clear hSw); go_simp; try with_reducible rfl)
          try simp only [putS]
          refine take_in (v := ?_) 22 (some 113) ?_ ?_
          case refine_2 => (intro w hSw; (try dsimp only at hSw); (have hSw1 := hSw.1); (have hSw2 := hSw.2); (clear hSw); go_simp; try with_reducible rfl)
          try simp only [putS]
          refine take_in (v := ?_) 23 (some 114) ?_ ?_
          case refine_2 => (intro w hSw; (try dsimp only at hSw); (have hSw1 := hSw.1); (have hSw2 := hSw.2); (clear hSw); go_simp; try with_reducible rfl)
          try simp only [putS]
          refine take_in (v := ?_) 24 (some 115) ?_ ?_
          case refine_2 => (intro w hSw; (try dsimp only at hSw); (have hSw1 := hSw.1); (have hSw2 := hSw.2); (clear hSw); go_simp; try with_reducible rfl)
          try simp only [putS]
          refine take_in (v := ?_) 25 (some 116) ?_ ?_
          case refine_2 => (intro w hSw; (try dsimp only at hSw); (have hSw1 := hSw.1); (have hSw2 := hSw.2); (clear hSw); go_simp; try with_reducible rfl)
          try simp only [putS]
          refine take_in (v := ?_) 26 (some 117) ?_ ?_
          case refine_2 => (intro w hSw; (try dsimp only at hSw); (have hSw1 := hSw.1); (have hSw2 := hSw.2); (clear hSw); go_simp; try with_reducible rfl)
          try simp only [putS]
          refine wpAnyH_ready (rs := [27]) (by kernel_rfl) (by simp) ?_
          refine AllReadyH.cons (o := _) rfl (fun K hK => ?_) AllReadyH.nil
          go_simp
          go_at_call 84; (with_reducible refine (HU.out _ (Kept.drew Nob wr)).mono ?_); rintro e w3 ⟨rfl, hk3⟩; have HK3 := Lib.hid ((Kept.drew Nob wr).trans' hk3); have c3 : w3.cell? ⟨pg, 3, none⟩ = some (.slice (some ⟨sb, so, none⟩) (k + 1) lc) := (hk3.cell (p := ⟨pg, 3, none⟩) hpl (fun f => f)).trans HC3.out; have y1 : w3.cell? ⟨sb, so + k * 2 + 1, none⟩ = some (.bool true) := (hk3.cell (p := ⟨sb, so + k * 2 + 1, none⟩) hsb (fun f => f)).trans HY1.out; clear hk3
          try go_wp2_with fail
          refine hK.out _ _ ⟨by assumption, by assumption⟩ (fun hHeld => ?_)
          clear hK K
          try simp only [putS]
          refine take_in (v := ?_) 28 (some 119) ?_ ?_
          case refine_2 => (intro w hSw; (try dsimp only at hSw); (have hSw1 := hSw.1); (have hSw2 := hSw.2); (clear hSw); go_simp; try with_reducible rfl)
          try simp only [putS]
          refine take_in (v := ?_) 29 (some 120) ?_ ?_
          case refine_2 => (intro w hSw; (try dsimp only at hSw); (have hSw1 := hSw.1); (have hSw2 := hSw.2); (clear hSw); go_simp; try with_reducible rfl)
          try simp only [putS]
          refine take_in (v := ?_) 30 (some 121) ?_ ?_
          case refine_2 => (intro w hSw; (try dsimp only at hSw); (have hSw1 := hSw.1); (have hSw2 := hSw.2); (clear hSw); go_simp; try with_reducible rfl)
          try simp only [putS]
          refine take_in (v := ?_) 31 (some 122) ?_ ?_
          case refine_2 => (intro w hSw; (try dsimp only at hSw); (have hSw1 := hSw.1); (have hSw2 := hSw.2); (clear hSw); go_simp; try with_reducible rfl)
          try simp only [putS]
          refine take_in (v := ?_) 33 (some 124) ?_ ?_
          case refine_2 => (intro w hSw; (try dsimp only at hSw); (have hSw1 := hSw.1); (have hSw2 := hSw.2); (clear hSw); go_simp; try with_reducible rfl)
          try simp only [putS]
          refine wpAnyH_ready (rs := [32]) (by kernel_rfl) (by simp) ?_
          refine AllReadyH.cons (o := _) rfl (fun K hK => ?_) AllReadyH.nil
          go_simp
          go_at_call 51; (with_reducible refine (HBt.out _ HK3.out).mono ?_); rintro e w4 ⟨g4, rfl, hr4, hk4⟩; have HK4 := Lib.hid (HK3.out.trans' hk4); have HR4 := Lib.hid hr4; have c3 : w4.cell? ⟨pg, 3, none⟩ = some (.slice (some ⟨sb, so, none⟩) (k + 1) lc) := (HK4.out.cell (p := ⟨pg, 3, none⟩) hpl (fun f => f)).trans HC3.out; have y1 : w4.cell? ⟨sb, so + k * 2 + 1, none⟩ = some (.bool true) := (HK4.out.cell (p := ⟨sb, so + k * 2 + 1, none⟩) hsb (fun f => f)).trans HY1.out; clear hk4 hr4
          try go_wp2_with fail
          refine hK.out _ _ ⟨by assumption, by assumption⟩ (fun hHeld => ?_)
          clear hK K
          try simp only [putS]
          refine wpAnyH_ready (rs := [34]) (by kernel_rfl) (by simp) ?_
          refine AllReadyH.cons (o := _) rfl (fun K hK => ?_) AllReadyH.nil
          go_simp
          go_at_call 113; (with_reducible refine (HEq.out _ _ HR4.out HK4.out).mono ?_); rintro e w5 ⟨rfl, hk5⟩; have HK5 := Lib.hid (HK4.out.trans' hk5); have c3 : w5.cell? ⟨pg, 3, none⟩ = some (.slice (some ⟨sb, so, none⟩) (k + 1) lc) := (HK5.out.cell (p := ⟨pg, 3, none⟩) hpl (fun f => f)).trans HC3.out; have y1 : w5.cell? ⟨sb, so + k * 2 + 1, none⟩ = some (.bool true) := (HK5.out.cell (p := ⟨sb, so + k * 2 + 1, none⟩) hsb (fun f => f)).trans HY1.out; clear hk5
          try go_wp2_with fail
          refine hK.out _ _ ⟨by assumption, by assumption⟩ (fun hHeld => ?_)
          clear hK K
          try simp only [putS]
          refine take_in (v := ?_) 35 (some 126) ?_ ?_
          case refine_2 => (intro w hSw; (try dsimp only at hSw); (have hSw1 := hSw.1); (have hSw2 := hSw.2); (clear hSw); go_simp; try with_reducible rfl)
          try simp only [putS]
          refine take_in (v := ?_) 36 (some 127) ?_ ?_
          case refine_2 => (intro w hSw; (try dsimp only at hSw); (have hSw1 := hSw.1); (have hSw2 := hSw.2); (clear hSw); go_simp; try with_reducible rfl)
          try simp only [putS]
          refine wpAnyH_done (by kernel_rfl) ?_ _
          have HLs := Lib.hid hlast
          have HBi := Lib.hid hbig
          clear hlast hbig
          cases mm with
          | false =>
            have HNo : Hid (parseOf ys = none) := Lib.hid (by rw [HPp.out, if_neg]; intro hq; simp only [pageMay, Bool.and_eq_true, HMm.out] at hq; exact absurd hq.2 (by decide))
            go_wp2_with fail
            go_ret
            exact ⟨fun _ => ⟨rfl, HKr.out.trans' HK5.out⟩, fun p hp => by rw [HNo.out] at hp; cases hp⟩
          | true =>
            have HYs : Hid (parseOf ys = some (pageOf ys ss)) := Lib.hid (by rw [HPp.out, if_pos]; rw [pageMay, HMm.out, HLs.out, Bool.true_and, Bool.and_true, decide_eq_true_eq]; have := HUo.out; have := HBi.out; omega)
            go_wp2_with fail
            go_ret
            exact ⟨fun hp => (by rw [HYs.out] at hp; cases hp), fun p hp => by rw [HYs.out] at hp; cases hp; exact ⟨pg, rfl, hpg, HPa.out.kept HK5.out (fun f => f) (fun _ _ f => f), HKr.out.trans' HK5.out⟩⟩
end Go.Proofs.YthppgchmamonnaaGreatDoor
