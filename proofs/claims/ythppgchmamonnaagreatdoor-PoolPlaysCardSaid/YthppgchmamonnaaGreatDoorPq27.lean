/- The document's Sum, put, get. The document's own page (pergolaref8.Page) in memory; Used. The document's own page: Insert. The document's own page: a row more; Insert that is done. -/
import Derived.Test.YthppgchmamonnaaGreatDoorPq24
import Derived.Lib.EndianBits
namespace Go.Proofs.YthppgchmamonnaaGreatDoor
open Go.RowKit
theorem xor_zero32 (z : Int) (h0 : 0 ≤ z) (h1 : z < 4294967296) : bits BinOp.xor IntKind.u32 z 0 = z := by
  obtain ⟨a, rfl⟩ := Int.eq_ofNat_of_zero_le h0
  have ha : (BitVec.ofInt 32 (a : Int)).toNat = a := by
    rw [BitVec.ofInt_natCast, BitVec.toNat_ofNat]; exact Nat.mod_eq_of_lt (by omega)
  show IntKind.u32.wrap ((BitVec.ofInt 32 (a : Int) ^^^ BitVec.ofInt 32 (0 : Int)).toNat : Int) = _
  rw [BitVec.toNat_xor, ha]
  have hz : (BitVec.ofInt 32 (0 : Int)).toNat = 0 := by decide
  rw [hz, Nat.xor_zero, wrap_u32]
  omega
theorem and_one32 (z : Int) (h0 : 0 ≤ z) (h1 : z < 4294967296) : bits BinOp.and IntKind.u32 z 1 = z % 2 :=
  bits_mask .u32 32 (by decide) wraps_u32 1 (by decide) z h0 h1
theorem crcBit_odd (z : Int) (hb : bits BinOp.and IntKind.u32 z 1 = 1) : crcBit z = bits BinOp.xor IntKind.u32 (z / 2) 3988292384 := by
  unfold crcBit
  rw [hb, show bits BinOp.and IntKind.u32 3988292384 (-1 % 4294967296) = 3988292384 from by decide +kernel]
theorem crcBit_even (z : Int) (h0 : 0 ≤ z) (h1 : z < 4294967296) (hb : bits BinOp.and IntKind.u32 z 1 ≠ 1) : crcBit z = z / 2 := by
  have h2 : bits BinOp.and IntKind.u32 z 1 = 0 := by rw [and_one32 z h0 h1] at hb ⊢; omega
  unfold crcBit
  rw [h2, show bits BinOp.and IntKind.u32 3988292384 (-0 % 4294967296) = 0 from by decide +kernel, xor_zero32 _ (by omega) (by omega)]
theorem xor32_in (a b : Int) : 0 ≤ bits BinOp.xor IntKind.u32 a b ∧ bits BinOp.xor IntKind.u32 a b < 4294967296 := by
  have : ∀ n : Int, 0 ≤ IntKind.u32.wrap n ∧ IntKind.u32.wrap n < 4294967296 := fun n => by rw [wrap_u32]; omega
  exact this _
theorem crcBit_in (z : Int) : 0 ≤ crcBit z ∧ crcBit z < 4294967296 := xor32_in _ _
set_option maxRecDepth 100000 in
theorem doc_sum (w : World) (v : Value) (ys : List Int) (F : Nat → Prop) (h : Reads w v (ys.map (Value.int .u8)) F) (hl : ys.length ≤ 1000000) :
    Calls Tryz.prog 96 #[v] w fun e w' => e = .returned (.int .u32 (crc ys)) ∧ w = w' := by
  obtain ⟨a, c, rfl, -⟩ := h.shape
  rw [List.length_map] at h ⊢
  have H := Lib.hid h
  clear h
  go_enter Tryz.func96, Tryz.ntmps96
  go_wp2
  go_loop [3, 4] (fun r i => ∃ (k : Nat) (x : Int), k ≤ ys.length ∧ i = .int .i64 k ∧ r = .int .u32 x ∧ Hid (x = (ys.take k).foldl crcByte 4294967295)) (fun _ i => ys.length - (intOf i).toNat)
  case atStart => exact ⟨0, 4294967295, Nat.zero_le _, rfl, rfl, rfl⟩
  case round =>
    obtain ⟨k, x, hk, rfl, rfl, hx⟩ := hrel
    by_cases hlt : k < ys.length
    · obtain ⟨b, o, y, rfl, hy, hc, -⟩ := H.out.cell (i := k) (by simpa using hlt)
      obtain rfl : y = .int .u8 ys[k] := by
        rw [List.getElem?_map, List.getElem?_eq_getElem hlt] at hy
        exact (Option.some.inj hy).symm
      clear hy
      have HT := Lib.hid (crc_take ys k hlt)
      generalize ys[k] = y at *
      obtain ⟨s0, hs0⟩ : ∃ s0, bits BinOp.xor IntKind.u32 x (y % 4294967296) = s0 := ⟨_, rfl⟩
      have HS0 : Hid ((0 ≤ s0 ∧ s0 < 4294967296) ∧ crcBits 8 s0 = (ys.take (k + 1)).foldl crcByte 4294967295) := Lib.hid ⟨hs0 ▸ xor32_in _ _, by rw [HT.out, ← hx.out, ← hs0]; rfl⟩
      go_wp2_with fail
      clear hs0 HT hx
      go_loop [3, 5] (fun r i => ∃ (j : Nat) (z : Int), j ≤ 8 ∧ i = .int .i64 j ∧ r = .int .u32 z ∧ Hid ((0 ≤ z ∧ z < 4294967296) ∧ crcBits (8 - j) z = (ys.take (k + 1)).foldl crcByte 4294967295)) (fun _ i => 8 - (intOf i).toNat)
      case atStart => exact ⟨0, s0, by omega, rfl, rfl, HS0⟩
      case round =>
        clear HS0
        obtain ⟨j, z, hj, rfl, rfl, hz⟩ := hrel
        by_cases hj8 : j < 8
        · have HN : Hid ((0 ≤ crcBit z ∧ crcBit z < 4294967296) ∧ crcBits (8 - (j + 1)) (crcBit z) = (ys.take (k + 1)).foldl crcByte 4294967295) := Lib.hid ⟨crcBit_in z, by rw [← hz.out.2, show 8 - j = (8 - (j + 1)) + 1 from by omega]; rfl⟩
          by_cases hb : bits BinOp.and IntKind.u32 z 1 = 1
          · have HE := Lib.hid (crcBit_odd z hb)
            have hd : (bits BinOp.and IntKind.u32 z 1 == 1) = true := by simpa using hb
            clear hb
            go_wp2_with fail
            go_round
            case rel => exact ⟨j + 1, crcBit z, by omega, by go_num, by rw [HE.out], HN⟩
            case measure => simp [intOf]; omega
          · have HE := Lib.hid (crcBit_even z hz.out.1.1 hz.out.1.2 hb)
            have hd : (bits BinOp.and IntKind.u32 z 1 == 1) = false := by simpa using hb
            clear hb
            go_wp2_with fail
            go_round
            case rel => exact ⟨j + 1, crcBit z, by omega, by go_num, by rw [HE.out], HN⟩
            case measure => simp [intOf]; omega
        · have hje : j = 8 := by omega
          subst hje
          have HZ : Hid (z = (ys.take (k + 1)).foldl crcByte 4294967295) := Lib.hid hz.out.2
          go_wp2_with fail
          go_round
          case rel => exact ⟨k + 1, z, by omega, by go_num, rfl, HZ⟩
          case measure => simp [intOf]; omega
    · have hke : k = ys.length := by omega
      subst hke
      have HN : Hid (crc ys = bits BinOp.xor IntKind.u32 IntKind.u32.max x) := Lib.hid (by unfold crc; rw [hx.out, List.take_length])
      go_wp2_with fail
      go_ret
      exact ⟨by rw [HN.out]; rfl, rfl⟩
def gl : List Int → Int
  | [] => 0
  | x :: r => x + 256 * gl r
theorem gl_in : ∀ (l : List Int), InB l → 0 ≤ gl l ∧ gl l < 256 ^ l.length := by
  intro l
  induction l with
  | nil => intro _; exact ⟨Int.le_refl _, by decide⟩
  | cons x r ih =>
    intro h
    have h1 := h x (by simp)
    have h2 := ih fun y hy => h y (by simp [hy])
    rw [gl, List.length_cons, Int.pow_succ]
    omega
theorem or_low (v y : Int) (h0 : 0 ≤ v) (h1 : v < 4294967296) (h2 : 0 ≤ y) (h3 : y < 256) : bits BinOp.or IntKind.i64 (v * 256) y = v * 256 + y :=
  bits_join .i64 48 (by decide) (fun n h0 h1 => IntWalk.i64_in n ⟨by omega, by omega⟩) 8 (v * 256) y (by omega) (by omega) (by omega) h2 (by omega) (by omega)
set_option maxRecDepth 100000 in
theorem doc_get (w : World) (b : Option Addr) (l c : Nat) (ys : List Int) (F : Nat → Prop) (h : Reads w (.slice b l c) (ys.map (Value.int .u8)) F) (hB : InB ys) (n : Nat) (hn : n ≤ ys.length) (h4 : n ≤ 4) :
    Calls Tryz.prog 111 #[.slice b l c, .int .i64 n] w fun e w' => e = .returned (.int .i64 (gl (ys.take n))) ∧ Kept Nob w w' := by
  have hl : l = ys.length := by have := h.len; rw [List.length_map] at this; exact this
  subst hl
  have H := Lib.hid h
  have HB := Lib.hid hB
  clear h hB
  go_enter Tryz.func111, Tryz.ntmps111
  go_wp2
  go_loopw [5, 6] (fun r i wr => ∃ (k : Nat) (x : Int), k ≤ n ∧ i = .int .i64 ((k : Int) - 1) ∧ r = .int .i64 x ∧ Hid (x = gl ((ys.take n).drop k)) ∧ Kept Nob w wr) (fun _ i _ => ((intOf i) + 1).toNat)
  case atStart => exact ⟨n, 0, Nat.le_refl _, by go_num, rfl, Lib.hid (by rw [List.drop_eq_nil_of_le (by simp; omega)]; rfl), Kept.refl _ _⟩
  case round =>
    obtain ⟨k, x, hk, rfl, rfl, hx, hkw⟩ := hrel
    have HK := Lib.hid hkw
    clear hkw
    by_cases h0 : 0 < k
    · obtain ⟨j, rfl⟩ : ∃ j, k = j + 1 := ⟨k - 1, by omega⟩
      have hjl : j < ys.length := by omega
      obtain ⟨bb, o, y, rfl, hy, hc, -⟩ := (H.out.kept HK.out (fun _ _ f => f)).cell (i := j) (by simpa using hjl)
      obtain rfl : y = .int .u8 ys[j] := by
        rw [List.getElem?_map, List.getElem?_eq_getElem hjl] at hy
        exact (Option.some.inj hy).symm
      clear hy
      have hyb := HB.out ys[j] (List.getElem_mem hjl)
      have hxb := gl_in ((ys.take n).drop (j + 1)) fun y hy => HB.out y (List.mem_of_mem_take (List.mem_of_mem_drop hy))
      have hx4 : (256 : Int) ^ ((ys.take n).drop (j + 1)).length ≤ 16777216 := by
        have : ((ys.take n).drop (j + 1)).length ≤ 3 := by simp; omega
        generalize ((ys.take n).drop (j + 1)).length = m at this ⊢
        rcases (show m = 0 ∨ m = 1 ∨ m = 2 ∨ m = 3 by omega) with rfl | rfl | rfl | rfl <;> decide
      rw [← hx.out] at hxb
      have HN : Hid (x * 256 + ys[j] = gl ((ys.take n).drop j)) := Lib.hid (by
        rw [List.drop_eq_getElem_cons (by simp; omega : j < (ys.take n).length), gl, ← hx.out, List.getElem_take]; omega)
      have hor := or_low x ys[j] hxb.1 (by omega) hyb.1 hyb.2
      have hw1 : IntKind.i64.wrap (x * 256) = x * 256 := IntWalk.i64_in _ ⟨by omega, by omega⟩
      have hge : decide ((0 : Int) ≤ ((j + 1 : Nat) : Int) - 1) = true := decide_eq_true (by omega)
      have hji : ((j + 1 : Nat) : Int) - 1 = (j : Int) := by omega
      rw [hji] at hge ⊢
      have hj0 : (0 : Int) ≤ (j : Int) := by omega
      have hj1 : (j : Int) < (ys.length : Int) := by omega
      generalize ys[j] = yj at *
      have HYw := Lib.hid (show wrap64 yj = yj from IntWalk.wrap64_in _ (by omega))
      clear hxb hx4 hx hyb
      go_wp2_with fail
      refine ⟨⟨j, x * 256 + yj, by omega, by go_num, by rw [HYw.out, hor], HN, HK.out⟩, by simp [intOf]⟩
    · have hk0 : k = 0 := by omega
      subst hk0
      rw [List.drop_zero] at hx
      have hge : decide ((0 : Int) ≤ ((0 : Nat) : Int) - 1) = false := by decide
      go_wp2_with fail
      go_ret
      exact ⟨by rw [hx.out]; rfl, HK.out⟩
def le (v : Int) (n : Nat) : List Int := (List.range n).map fun i => v / 256 ^ i % 256
theorem le_succ (v : Int) (n : Nat) : le v (n + 1) = le v n ++ [v / 256 ^ n % 256] := by simp [le, List.range_succ]
theorem le_len (v : Int) (n : Nat) : (le v n).length = n := by simp [le]
def PutRel (w : World) (v : Int) (k : Nat) (r : Value) (wr : World) : Prop :=
  ∃ b c, r = .slice b k c ∧ Own wr 5 r ((le v k).map (Value.int .u8)) (From w.heap.size) ∧ Kept Nob w wr
theorem PutRel.more {w wq w4 : World} {v : Int} {k : Nat} {b : Option Addr} {c : Nat} (h : PutRel w v k (.slice b k c) wq) {x : Int} (hx : x = v / 256 ^ k % 256) {g2 cap2 : Nat} {o : Obj}
    (ho4 : Own w4 5 (.slice (some ⟨g2, 0, none⟩) (k + 1) cap2) ((le v k).map (Value.int .u8) ++ [.int .u8 x]) (fun y => (Value.slice b k c).ownBlock = some y ∨ (wq.alloc o).heap.size ≤ y)) (hk4 : Kept (fun y => (Value.slice b k c).ownBlock = some y) (wq.alloc o) w4) :
    PutRel w v (k + 1) (.slice (some ⟨g2, 0, none⟩) (k + 1) cap2) w4 := by
  obtain ⟨b', c', e, ho, hk⟩ := h
  simp only [Value.slice.injEq, true_and] at e
  obtain ⟨rfl, rfl⟩ := e
  have hs := hk.size
  refine ⟨_, _, rfl, ?_, (hk.then (Kept.alloc Nob wq o)).from (Nat.le_refl _) (hk4.mono fun y _ e => ho.2 y e)⟩
  rw [le_succ, List.map_append, ← hx]
  refine ho4.mono fun y _ e => ?_
  rcases e with e | e
  · exact ho.2 y e
  · simp at e; show _ ≤ _; omega
set_option maxRecDepth 100000 in
theorem doc_put (w : World) (v : Int) (h0 : 0 ≤ v) (h1 : v < 4294967296) (n : Nat) (hn : n ≤ 4) :
    Calls Tryz.prog 95 #[.int .u64 v, .int .i64 n] w fun e w' => ∃ b c, e = .returned (.slice b n c) ∧ Own w' 5 (.slice b n c) ((le v n).map (Value.int .u8)) (From w.heap.size) ∧ Kept Nob w w' := by
  have HR0 : Hid (PutRel w v 0 (.slice none 0 0) w) := Lib.hid ⟨none, 0, rfl, Own.nil _ _ _, Kept.refl _ _⟩
  go_enter Tryz.func95, Tryz.ntmps95
  go_wp2
  go_loopw [5, 6] (fun r i wr => ∃ k : Nat, k ≤ n ∧ i = .int .i64 k ∧ PutRel w v k r wr) (fun _ i _ => n - (intOf i).toNat)
  case atStart => exact ⟨0, Nat.zero_le _, rfl, HR0.out⟩
  case round =>
    clear HR0
    obtain ⟨k, hk, rfl, b, c, rfl, ho, hkw⟩ := hrel
    have HP : Hid (PutRel w v k (.slice b k c) wr) := Lib.hid ⟨b, c, rfl, ho, hkw⟩
    have HO := Lib.hid ho
    clear ho hkw
    by_cases hlt : k < n
    · have hll : ((le v k).map (Value.int .u8)).length = k := by rw [List.length_map, le_len]
      have HLl := Lib.hid hll
      clear hll
      rcases (show k = 0 ∨ k = 1 ∨ k = 2 ∨ k = 3 from by omega) with hk0 | hk0 | hk0 | hk0
      · subst hk0
        have HX : Hid (v % 256 = v / 256 ^ 0 % 256) := Lib.hid (by simp)
        go_wp2_with (at_builtin; refine wpList_append1_pg rfl _ _ 50 rfl tBytes (.slice b 0 c) ((le v 0).map (Value.int .u8)) (.int .u8 (v % 256)) (From w.heap.size) ⟨wr.heap.size, 0, none⟩ 1 rfl rfl (HO.out.alloc _) (by simp) rfl (Nat.le_refl _) rfl (by rw [HLl.out]; omega) ?_; intro g2 cap2 w4 ho4 hk4; rw [HLl.out] at ho4 ⊢; have HN := Lib.hid (HP.out.more HX.out ho4 hk4); clear ho4 hk4)
        go_roundw
        case rel => exact ⟨1, by omega, by go_num, HN.out⟩
        case measure => simp [intOf]; omega
      · subst hk0
        have HX : Hid (v / 256 % 256 = v / 256 ^ 1 % 256) := Lib.hid (by simp)
        go_wp2_with (at_builtin; refine wpList_append1_pg rfl _ _ 50 rfl tBytes (.slice b 1 c) ((le v 1).map (Value.int .u8)) (.int .u8 (v / 256 % 256)) (From w.heap.size) ⟨wr.heap.size, 0, none⟩ 1 rfl rfl (HO.out.alloc _) (by simp) rfl (Nat.le_refl _) rfl (by rw [HLl.out]; omega) ?_; intro g2 cap2 w4 ho4 hk4; rw [HLl.out] at ho4 ⊢; have HN := Lib.hid (HP.out.more HX.out ho4 hk4); clear ho4 hk4)
        go_roundw
        case rel => exact ⟨2, by omega, by go_num, HN.out⟩
        case measure => simp [intOf]; omega
      · subst hk0
        have HX : Hid (v / 65536 % 256 = v / 256 ^ 2 % 256) := Lib.hid (by simp)
        go_wp2_with (at_builtin; refine wpList_append1_pg rfl _ _ 50 rfl tBytes (.slice b 2 c) ((le v 2).map (Value.int .u8)) (.int .u8 (v / 65536 % 256)) (From w.heap.size) ⟨wr.heap.size, 0, none⟩ 1 rfl rfl (HO.out.alloc _) (by simp) rfl (Nat.le_refl _) rfl (by rw [HLl.out]; omega) ?_; intro g2 cap2 w4 ho4 hk4; rw [HLl.out] at ho4 ⊢; have HN := Lib.hid (HP.out.more HX.out ho4 hk4); clear ho4 hk4)
        go_roundw
        case rel => exact ⟨3, by omega, by go_num, HN.out⟩
        case measure => simp [intOf]; omega
      · subst hk0
        have HX : Hid (v / 16777216 % 256 = v / 256 ^ 3 % 256) := Lib.hid (by simp)
        go_wp2_with (at_builtin; refine wpList_append1_pg rfl _ _ 50 rfl tBytes (.slice b 3 c) ((le v 3).map (Value.int .u8)) (.int .u8 (v / 16777216 % 256)) (From w.heap.size) ⟨wr.heap.size, 0, none⟩ 1 rfl rfl (HO.out.alloc _) (by simp; omega) rfl (Nat.le_refl _) rfl (by rw [HLl.out]; omega) ?_; intro g2 cap2 w4 ho4 hk4; rw [HLl.out] at ho4 ⊢; have HN := Lib.hid (HP.out.more HX.out ho4 hk4); clear ho4 hk4)
        go_roundw
        case rel => exact ⟨4, by omega, by go_num, HN.out⟩
        case measure => simp [intOf]; omega
    · have hkn : k = n := by omega
      subst hkn
      obtain ⟨b', c', e, ho, hkw⟩ := HP.out
      simp only [Value.slice.injEq, true_and] at e
      obtain ⟨rfl, rfl⟩ := e
      have HO2 := Lib.hid ho
      have HK := Lib.hid hkw
      clear ho hkw HP HO
      go_wp2_with fail
      go_ret
      exact ⟨b, c, rfl, HO2.out, HK.out⟩
def dRows (ss : List (Option (List Int))) : List (List Value) := ss.map fun s => (s.getD []).map (Value.int .u8)
def dHas (ss : List (Option (List Int))) : List Value := ss.map fun s => .bool s.isSome
theorem dRows_length (ss : List (Option (List Int))) : (dRows ss).length = ss.length := by simp [dRows]
theorem dHas_length (ss : List (Option (List Int))) : (dHas ss).length = ss.length := by simp [dHas]
def DPgAt (w : World) (pg : Nat) (p : PgM) (R : Nat → Prop) : Prop :=
  ∃ bv hv, w.heap[pg]? = some (.cells #[.int .i64 p.kind, .int .i64 p.id, bv, hv] 106 (0, 0)) ∧ OwnRows w 50 5 bv (dRows p.ss) R ∧ Own w 4 hv (dHas p.ss) R ∧ ¬ R pg
theorem DPgAt.lt {w : World} {pg : Nat} {p : PgM} {R : Nat → Prop} (h : DPgAt w pg p R) : pg < w.heap.size := by
  obtain ⟨_, _, hb, _⟩ := h
  exact (Array.getElem?_eq_some_iff.1 hb).1
theorem DPgAt.kept {w w' : World} {pg : Nat} {p : PgM} {R G : Nat → Prop} (h : DPgAt w pg p R) (hk : Kept G w w') (hp : ¬ G pg) (hd : ∀ k, R k → ¬ G k) : DPgAt w' pg p R := by
  have hl := h.lt
  obtain ⟨bv, hv, hb, h1, h2, h3⟩ := h
  exact ⟨bv, hv, (hk.block pg hl hp).trans hb, h1.kept hk hd, h2.kept hk hd, h3⟩
theorem DPgAt.mono {w : World} {pg : Nat} {p : PgM} {R G : Nat → Prop} (h : DPgAt w pg p R) (hg : ∀ k, k < w.heap.size → R k → G k) (hp : ¬ G pg) : DPgAt w pg p G := by
  obtain ⟨bv, hv, hb, h1, h2, _⟩ := h
  exact ⟨bv, hv, hb, h1.mono hg, h2.mono hg, hp⟩
theorem dRow_at {ss : List (Option (List Int))} {j : Nat} (h : j < ss.length) : (dRows ss)[j]'(by rw [dRows_length]; exact h) = (ss[j].getD []).map (Value.int .u8) := by simp [dRows]
set_option maxRecDepth 100000 in
theorem dpage_used (w : World) (pg : Nat) (p : PgM) (R : Nat → Prop) (h : DPgAt w pg p R) (hl : p.ss.length ≤ 1000) (hs : ∀ s ∈ p.ss, slotLen s ≤ 1000) :
    Calls Tryz.prog 97 #[.pointer (some ⟨pg, 0, none⟩)] w fun e w' => e = .returned (.int .i64 (usedOf p.ss)) ∧ w = w' := by
  obtain ⟨bv, hv, hb, hr, hh, -⟩ := h
  obtain ⟨ha, hc, rfl, -⟩ := hh.reads.shape
  rw [dHas_length] at hb
  have c2 := cell_at hb 2 _ rfl
  have c3 := cell_at hb 3 _ rfl
  obtain ⟨vs, ho, hrw⟩ := hr
  obtain ⟨ba, bc, rfl, -⟩ := ho.reads.shape
  rw [hrw.len, dRows_length] at c2
  have HO := Lib.hid ho.reads
  have HW := Lib.hid hrw
  have HB := Lib.hid fun j => sum_bound p.ss 1000 hs j
  clear hb ho hrw hh hs
  generalize p.ss = ss at *
  go_enter Tryz.func97, Tryz.ntmps97
  go_wp2
  go_loop [3, 4] (fun n i => ∃ j : Nat, j ≤ ss.length ∧ i = .int .i64 j ∧ n = .int .i64 ((16 + 4 * ss.length + ((ss.take j).map slotLen).sum : Nat) : Int)) (fun _ i => ss.length - (intOf i).toNat)
  case atStart => exact ⟨0, Nat.zero_le _, rfl, by simp⟩
  case round =>
    obtain ⟨j, hj, rfl, rfl⟩ := hrel
    have hb := HB.out j
    by_cases hlt : j < ss.length
    · have hjv : j < vs.length := by rw [HW.out.len, dRows_length]; exact hlt
      obtain ⟨b, o, y, rfl, hy, hc, -⟩ := HO.out.cell (i := j) hjv
      have hrow := (HW.out.own j _ _ hy (List.getElem?_eq_getElem (by rw [dRows_length]; exact hlt))).reads
      rw [dRow_at hlt] at hrow
      obtain ⟨ua, uc, rfl, -⟩ := hrow.shape
      rw [List.length_map] at hc
      have HT := Lib.hid (sum_take ss j hlt)
      have hb2 := HB.out (j + 1)
      rw [HT.out] at hb2
      have hz : (ss[j].getD []).length = slotLen ss[j] := rfl
      rw [hz] at hc
      clear hrow hy hz
      generalize ((ss.take j).map slotLen).sum = q at *
      generalize slotLen ss[j] = z at *
      go_wp2_with fail
      go_round
      case rel => exact ⟨j + 1, by omega, by go_num, by rw [HT.out]; go_num⟩
      case measure => simp [intOf]; omega
    · have hje : j = ss.length := by omega
      subst hje
      rw [List.take_length]
      have HU : Hid (usedOf ss = 16 + 4 * ss.length + (ss.map slotLen).sum) := Lib.hid rfl
      rw [List.take_length] at hb
      generalize (ss.map slotLen).sum = q at *
      go_wp2_with fail
      go_ret
      exact ⟨by rw [HU.out]; rfl, rfl⟩
theorem sum_set : ∀ (ss : List (Option (List Int))) (i : Nat) (h : i < ss.length) (s : Option (List Int)), ((ss.set i s).map slotLen).sum + slotLen ss[i] = (ss.map slotLen).sum + slotLen s
  | [], _, h, _ => by simp at h
  | x :: r, 0, _, s => by simp only [List.set_cons_zero, List.map_cons, List.sum_cons, List.getElem_cons_zero]; omega
  | x :: r, i + 1, h, s => by
    have := sum_set r i (by simpa using h) s
    simp only [List.set_cons_succ, List.map_cons, List.sum_cons, List.getElem_cons_succ]
    omega
theorem freeIdx_none {ss : List (Option (List Int))} (h : freeIdx ss < ss.length) : ss[freeIdx ss] = none := by
  have := List.findIdx_getElem (xs := ss) (p := fun s : Option (List Int) => s.isNone) (w := h)
  simp only [Option.isNone_iff_eq_none] at this
  exact this
theorem usedOf_with (ss : List (Option (List Int))) (b : List Int) : usedOf (withOf ss (freeIdx ss) b) = usedOf ss + b.length + if freeIdx ss = ss.length then 4 else 0 := by
  unfold withOf
  have hle := freeIdx_le ss
  by_cases h : freeIdx ss < ss.length
  · rw [if_pos h, if_neg (by omega)]
    have h1 := sum_set ss _ h (some b)
    rw [freeIdx_none h] at h1
    have e1 : slotLen (some b) = b.length := rfl
    have e2 : slotLen none = 0 := rfl
    unfold usedOf
    rw [List.length_set]
    omega
  · rw [if_neg h, if_pos (by omega)]
    unfold usedOf
    rw [List.length_append, List.map_append, List.sum_append]
    simp [slotLen]; omega
theorem usedOf_le {ss : List (Option (List Int))} (hz : Sized ss) : usedOf ss ≤ 100000 := by
  have h1 := sum_bound ss 512 hz.2 ss.length
  rw [List.take_length] at h1
  have := hz.1
  unfold usedOf
  have : ss.length * 512 ≤ 60 * 512 := Nat.mul_le_mul_right _ this
  omega
def RetNoIns (w : World) (en : Ending) (w' : World) : Prop := ∃ k : Int, en = .returned (.tuple #[.int .i64 k, .int .i64 8]) ∧ w = w'
set_option maxRecDepth 100000 in
theorem dpage_insert_no (w : World) (pg : Nat) (p : PgM) (R : Nat → Prop) (h : DPgAt w pg p R) (hz : Sized p.ss) (v : Value) (b : List Int) (G : Nat → Prop) (hb : Reads w v (b.map (Value.int .u8)) G) (h1 : b.length ≤ 400)
    (hno : 60 ≤ freeIdx p.ss ∨ 512 < usedOf (withOf p.ss (freeIdx p.ss) b)) :
    Calls Tryz.prog 57 #[.pointer (some ⟨pg, 0, none⟩), v] w (RetNoIns w) := by
  have HU := Lib.hid (dpage_used w pg p R h (by have := hz.1; omega) (fun s hs => by have := hz.2 s hs; omega))
  rw [usedOf_with] at hno
  have hul := usedOf_le hz
  have hq := freeIdx_le p.ss
  obtain ⟨va, vc, rfl, -⟩ := hb.shape
  rw [List.length_map]
  obtain ⟨bv, hv, hb0, -, hh, -⟩ := h
  obtain ⟨ha, hc, rfl, -⟩ := hh.reads.shape
  rw [dHas_length] at hb0
  have c3 : w.cell? ⟨pg, 3, none⟩ = some (.slice ha p.ss.length hc) := cell_at hb0 3 _ rfl
  have HH := Lib.hid hh.reads
  have HF := Lib.hid (fun (k : Nat) (hk : k < p.ss.length) => freeIdx_of (ss := p.ss) hk)
  have HFe := Lib.hid (freeIdx_end (ss := p.ss))
  have hsz := hz.1
  have HNo := Lib.hid hno
  clear hb hb0 hh hz hno
  generalize p.ss = ss at *
  generalize usedOf ss = u at *
  go_enter Tryz.func57, Tryz.ntmps57
  go_wp2
  go_loop [6] (fun i => ∃ j : Nat, j ≤ ss.length ∧ i = .int .i64 j ∧ Hid (∀ q (h : q < j) (hl : q < ss.length), (ss[q]).isSome = true)) (fun i => ss.length - (intOf i).toNat)
  case atStart => exact ⟨0, Nat.zero_le _, rfl, Lib.hid (fun q h => by omega)⟩
  case round =>
    obtain ⟨j, hj, rfl, hq⟩ := hrel
    by_cases hlt : j < ss.length
    · obtain ⟨bb, o, y, rfl, hy, hc', -⟩ := HH.out.cell (i := j) (by rw [dHas_length]; exact hlt)
      obtain rfl : y = .bool ss[j].isSome := by
        simp only [dHas, List.getElem?_map, List.getElem?_eq_getElem hlt, Option.map_some, Option.some.injEq] at hy
        exact hy.symm
      clear hy
      cases hs : ss[j].isSome with
      | true =>
        rw [hs] at hc'
        have HQ : Hid (∀ q (h : q < j + 1) (hl : q < ss.length), (ss[q]).isSome = true) := Lib.hid (fun q h hl => by
          by_cases e : q = j
          · subst e; exact hs
          · exact hq.out q (by omega) hl)
        clear hs hq
        go_wp2_with fail
        go_round
        case rel => exact ⟨j + 1, by omega, by go_num, HQ⟩
        case measure => simp [intOf]; omega
      | false =>
        rw [hs] at hc'
        have hfi := HF.out j hlt (fun q h => hq.out q h (by omega)) hs
        have hn := HNo.out
        rw [hfi, if_neg (by omega : ¬ j = ss.length)] at hn
        clear hs hq hfi HNo HF HFe HH
        by_cases h5 : 512 < u + b.length
        · clear hn
          go_wp2_with (refine HU.out.mono ?_; rintro e w' ⟨rfl, rfl⟩)
          go_ret2
          exact ⟨_, rfl, rfl⟩
        · omega
    · obtain rfl : j = ss.length := by omega
      have hfi := HFe.out (fun q h => hq.out q h h)
      have hn := HNo.out
      rw [hfi, if_pos rfl] at hn
      clear hq hfi HNo HF HFe HH
      by_cases h5 : 512 < u + b.length + 4
      · clear hn
        go_wp2_with (refine HU.out.mono ?_; rintro e w' ⟨rfl, rfl⟩)
        go_ret2
        exact ⟨_, rfl, rfl⟩
      · have h6 : 60 ≤ ss.length := by omega
        clear hn
        go_wp2_with (refine HU.out.mono ?_; rintro e w' ⟨rfl, rfl⟩)
        go_ret2
        exact ⟨_, rfl, rfl⟩
def DPgW (w : World) (pg : Nat) (kind id : Int) (rows : List (List Value)) (has : List Value) (R : Nat → Prop) : Prop :=
  ∃ bv hv, w.heap[pg]? = some (.cells #[.int .i64 kind, .int .i64 id, bv, hv] 106 (0, 0)) ∧ OwnRows w 50 5 bv rows R ∧ Own w 4 hv has R ∧ ¬ R pg
theorem tFlags : Plain Tryz.prog 98 4 (.bool false) 1 := Plain.of Tryz.underlying98 (by kernel_rfl) rfl
theorem DPgW.fill {w w3 : World} {pg gh gb nh nb ch cb j : Nat} {kind id : Int} {rows : List (List Value)} {has : List Value} {R : Nat → Prop}
    (hb : w.heap[pg]? = some (.cells #[.int .i64 kind, .int .i64 id, .slice (some ⟨gb, 0, none⟩) nb cb, .slice (some ⟨gh, 0, none⟩) nh ch] 106 (0, 0)))
    (hr : OwnRows w 50 5 (.slice (some ⟨gb, 0, none⟩) nb cb) rows R) (hh : Own w 4 (.slice (some ⟨gh, 0, none⟩) nh ch) has R) (hn : ¬ R pg)
    (hk : Kept Nob (w.setCell ⟨gh, j, none⟩ (.bool true)) w3) {v : Value} {x : List Value} (ho : Own w3 5 v x (From w.heap.size)) :
    DPgW (w3.setCell ⟨gb, j, none⟩ v) pg kind id (rows.set j x) (has.set j (.bool true)) (fun k => R k ∨ (w.heap.size ≤ k ∧ k < (w3.setCell ⟨gb, j, none⟩ v).heap.size)) ∧ Kept R w (w3.setCell ⟨gb, j, none⟩ v) := by
  have hpl : pg < w.heap.size := (Array.getElem?_eq_some_iff.1 hb).1
  have hRh : R gh := hh.2 gh rfl
  have k1 := kept1 w gh j (.bool true)
  have s1 := set_size w ⟨gh, j, none⟩ (.bool true)
  have hr1 : OwnRows (w.setCell ⟨gh, j, none⟩ (.bool true)) 50 5 (.slice (some ⟨gb, 0, none⟩) nb cb) rows R := hr.keptT k1 fun k hj => by
    obtain ⟨cur, hc⟩ := hh.blockIs (g := gh) rfl
    rw [show k = gh from hj]
    exact ⟨cur, _, _, hc, by decide, by decide⟩
  have hh1 := hh.set j (.bool true)
  have ho' : Own w3 5 v x (From (w.setCell ⟨gh, j, none⟩ (.bool true)).heap.size) := by rw [s1]; exact ho
  obtain ⟨q1, q2, -⟩ := hr1.store (by decide) hk ho' j
  rw [s1] at q1
  have hh3 := hh1.kept hk (fun _ _ f => f)
  have hh4 : Own (w3.setCell ⟨gb, j, none⟩ v) 4 (.slice (some ⟨gh, 0, none⟩) nh ch) (has.set j (.bool true)) R := hh3.keptT (kept1 w3 gb j v) fun k hj hg => by
    obtain ⟨vs, hvs, -⟩ := hr1
    obtain ⟨cur, hc⟩ := (hvs.kept hk (fun _ _ f => f)).blockIs (g := gb) rfl
    rw [show k = gb from hj] at hg
    exact hh3.not_in hc (by decide) hg
  have k2 := kept1 w3 gb j v
  have hall : Kept R w (w3.setCell ⟨gb, j, none⟩ v) := ((k1.mono fun k _ e => by rw [show k = gh from e]; exact hRh).then hk).trans' (k2.mono fun k _ e => by rw [show k = gb from e]; exact q2)
  have hs := hall.size
  exact ⟨⟨_, _, (hall.block pg hpl hn).trans hb, q1.mono (fun k _ h => by rw [set_size]; exact h), hh4.mono fun k _ h => .inl h, fun e => e.elim hn (fun e => by omega)⟩, hall⟩
structure DPgB (w : World) (pg : Nat) (kind id : Int) (bv hv : Value) (rows : List (List Value)) (has : List Value) (R : Nat → Prop) : Prop where
  head : w.heap[pg]? = some (.cells #[.int .i64 kind, .int .i64 id, bv, hv] 106 (0, 0))
  rows : OwnRows w 50 5 bv rows R
  has : Own w 4 hv has R
  out : ¬ R pg
theorem DPgB.lt {w : World} {pg : Nat} {kind id : Int} {bv hv : Value} {rows : List (List Value)} {has : List Value} {R : Nat → Prop} (h : DPgB w pg kind id bv hv rows has R) : pg < w.heap.size := (Array.getElem?_eq_some_iff.1 h.head).1
theorem DPgB.whole {w : World} {pg : Nat} {kind id : Int} {bv hv : Value} {rows : List (List Value)} {has : List Value} {R : Nat → Prop} (h : DPgB w pg kind id bv hv rows has R) : DPgW w pg kind id rows has R := ⟨bv, hv, h.head, h.rows, h.has, h.out⟩
theorem DPgB.kept {w w' : World} {pg : Nat} {kind id : Int} {bv hv : Value} {rows : List (List Value)} {has : List Value} {R G : Nat → Prop} (h : DPgB w pg kind id bv hv rows has R) (hk : Kept G w w') (hp : ¬ G pg) (hd : ∀ k, R k → ¬ G k) : DPgB w' pg kind id bv hv rows has R :=
  ⟨(hk.block pg h.lt hp).trans h.head, h.rows.kept hk hd, h.has.kept hk hd, h.out⟩
theorem DPgB.mono {w : World} {pg : Nat} {kind id : Int} {bv hv : Value} {rows : List (List Value)} {has : List Value} {R G : Nat → Prop} (h : DPgB w pg kind id bv hv rows has R) (hg : ∀ k, k < w.heap.size → R k → G k) (hp : ¬ G pg) : DPgB w pg kind id bv hv rows has G :=
  ⟨h.head, h.rows.mono hg, h.has.mono hg, hp⟩
theorem DPgB.low {w : World} {pg : Nat} {kind id : Int} {bv hv : Value} {rows : List (List Value)} {has : List Value} {R : Nat → Prop} (h : DPgB w pg kind id bv hv rows has R) : DPgB w pg kind id bv hv rows has (fun k => R k ∧ k < w.heap.size) :=
  h.mono (fun _ hk hr => ⟨hr, hk⟩) (fun e => h.out e.1)
theorem DPgB.hasNot {w : World} {pg : Nat} {kind id : Int} {bv hv : Value} {rows : List (List Value)} {has : List Value} {R : Nat → Prop} (h : DPgB w pg kind id bv hv rows has R) : hv.ownBlock ≠ some pg := h.has.not_in h.head (by decide)
theorem DPgB.rowsNot {w : World} {pg : Nat} {kind id : Int} {bv hv : Value} {rows : List (List Value)} {has : List Value} {R : Nat → Prop} (h : DPgB w pg kind id bv hv rows has R) : bv.ownBlock ≠ some pg := by
  obtain ⟨vs, hvs, -⟩ := h.rows
  exact hvs.not_in h.head (by decide)
theorem DPgB.hasHead {w w2 : World} {pg : Nat} {kind id : Int} {bv hv : Value} {rows : List (List Value)} {has : List Value} {R : Nat → Prop} {o : Obj} (h : DPgB w pg kind id bv hv rows has R) (hk2 : Kept (fun k => hv.ownBlock = some k) (w.alloc o) w2) :
    w2.heap[pg]? = some (.cells #[.int .i64 kind, .int .i64 id, bv, hv] 106 (0, 0)) := by
  have hl := h.lt
  exact (hk2.block pg (by simp; omega) h.hasNot).trans (((Kept.alloc Nob w o).block pg hl (fun f => f)).trans h.head)
theorem DPgB.rowsHead {w w2 : World} {pg : Nat} {kind id : Int} {bv hv : Value} {rows : List (List Value)} {has : List Value} {R : Nat → Prop} {o : Obj} (h : DPgB w pg kind id bv hv rows has R) (hk2 : Kept (fun k => bv.ownBlock = some k) (w.alloc o) w2) :
    w2.heap[pg]? = some (.cells #[.int .i64 kind, .int .i64 id, bv, hv] 106 (0, 0)) := by
  have hl := h.lt
  exact (hk2.block pg (by simp; omega) h.rowsNot).trans (((Kept.alloc Nob w o).block pg hl (fun f => f)).trans h.head)
def PgF (pg : Nat) (R : Nat → Prop) : Nat → Prop := fun x => x = pg ∨ R x
theorem DPgB.growHas {w w2 : World} {pg : Nat} {kind id : Int} {bv hv : Value} {rows : List (List Value)} {has : List Value} {R : Nat → Prop} {o : Obj} (h : DPgB w pg kind id bv hv rows has R) {hv2 u : Value}
    (ho2 : Own w2 4 hv2 (has ++ [u]) (fun k => hv.ownBlock = some k ∨ (w.alloc o).heap.size ≤ k)) (hk2 : Kept (fun k => hv.ownBlock = some k) (w.alloc o) w2) :
    DPgB (w2.setCell ⟨pg, 3, none⟩ hv2) pg kind id bv hv2 rows (has ++ [u]) (fun k => R k ∨ (w.heap.size ≤ k ∧ k < (w2.setCell ⟨pg, 3, none⟩ hv2).heap.size)) ∧ Kept (PgF pg R) w (w2.setCell ⟨pg, 3, none⟩ hv2) := by
  have hl := h.lt
  have ka := Kept.alloc Nob w o
  have k1 := kept1 w2 pg 3 hv2
  have hR : ∀ k, hv.ownBlock = some k → R k := fun k e => h.has.2 k e
  have hh2 := h.hasHead hk2
  have hsz : w.heap.size ≤ w2.heap.size := Nat.le_trans ka.size hk2.size
  have hr : OwnRows w2 50 5 bv rows R := (h.rows.kept ka (fun _ _ f => f)).keptT hk2 fun k e => by
    obtain ⟨cur, hc⟩ := (h.has.kept ka (fun _ _ f => f)).blockIs e
    exact ⟨cur, _, _, hc, by decide, by decide⟩
  have hpf : ∀ k, Just pg k → ∃ cs e' fz, w2.heap[k]? = some (.cells cs e' fz) ∧ e' ≠ 50 ∧ e' ≠ 5 := fun k e => by
    rw [show k = pg from e]; exact ⟨_, _, _, hh2, by decide, by decide⟩
  have hr2 := hr.keptT k1 hpf
  have ho3 := ho2.keptT k1 fun k e => by rw [show k = pg from e]; exact ho2.not_in hh2 (by decide)
  have hall : Kept (PgF pg R) w (w2.setCell ⟨pg, 3, none⟩ hv2) := (((Kept.alloc (PgF pg R) w o).trans' (hk2.mono fun k _ e => .inr (hR k e)))).trans' (k1.mono fun k _ e => .inl e)
  have hs := hall.size
  refine ⟨⟨(heap_set w2 pg 3 _ _ hv2 hh2).trans rfl, hr2.mono (fun k _ h => .inl h), ho3.mono fun k hk e => ?_, fun e => e.elim h.out (fun e => by omega)⟩, hall⟩
  rcases e with e | e
  · exact .inl (hR k e)
  · exact .inr ⟨by simp at e; omega, hk⟩
theorem DPgB.growRows {w w2 : World} {pg : Nat} {kind id : Int} {bv hv : Value} {vs : List Value} {rows : List (List Value)} {has : List Value} {R G : Nat → Prop} {o : Obj} (h : DPgB w pg kind id bv hv rows has R) (hv1 : Own w 50 bv vs R) (hrw : RowsAt w 5 vs rows R) {bv2 u : Value} {x : List Value}
    (hd : Disj R G) (hu : Own w 5 u x G)
    (ho2 : Own w2 50 bv2 (vs ++ [u]) (fun k => bv.ownBlock = some k ∨ (w.alloc o).heap.size ≤ k)) (hk2 : Kept (fun k => bv.ownBlock = some k) (w.alloc o) w2) (hG : ¬ G pg) :
    DPgB (w2.setCell ⟨pg, 2, none⟩ bv2) pg kind id bv2 hv (rows ++ [x]) has (fun k => R k ∨ G k ∨ (w.heap.size ≤ k ∧ k < (w2.setCell ⟨pg, 2, none⟩ bv2).heap.size)) ∧ Kept (PgF pg R) w (w2.setCell ⟨pg, 2, none⟩ bv2) := by
  have hl := h.lt
  have ka := Kept.alloc Nob w o
  have k1 := kept1 w2 pg 2 bv2
  have hR : ∀ k, bv.ownBlock = some k → R k := fun k e => hv1.2 k e
  have hh2 := h.rowsHead hk2
  have hsz : w.heap.size ≤ w2.heap.size := Nat.le_trans ka.size hk2.size
  obtain ⟨hr, -⟩ := OwnRows.snoc (er := 50) (e := 5) (by decide) (hv1.kept ka (fun _ _ f => f)) (hrw.kept ka (fun _ _ f => f)) hd (hu.kept ka (fun _ _ f => f)) ho2 hk2
  have hh : Own w2 4 hv has R := (h.has.kept ka (fun _ _ f => f)).keptT hk2 fun k e => by
    obtain ⟨cur, hc⟩ := (hv1.kept ka (fun _ _ f => f)).blockIs e
    exact (h.has.kept ka (fun _ _ f => f)).not_in hc (by decide)
  have hpf : ∀ k, Just pg k → ∃ cs e' fz, w2.heap[k]? = some (.cells cs e' fz) ∧ e' ≠ 50 ∧ e' ≠ 5 := fun k e => by
    rw [show k = pg from e]; exact ⟨_, _, _, hh2, by decide, by decide⟩
  have hr2 := hr.keptT k1 hpf
  have ho3 := hh.keptT k1 fun k e => by rw [show k = pg from e]; exact hh.not_in hh2 (by decide)
  have hall : Kept (PgF pg R) w (w2.setCell ⟨pg, 2, none⟩ bv2) := (((Kept.alloc (PgF pg R) w o).trans' (hk2.mono fun k _ e => .inr (hR k e)))).trans' (k1.mono fun k _ e => .inl e)
  refine ⟨⟨(heap_set w2 pg 2 _ _ bv2 hh2).trans rfl, hr2.mono (fun k hk e => ?_), ho3.mono fun k hk e => .inl e, fun e => e.elim h.out (fun e => e.elim hG (fun e => by have := e.1; omega))⟩, hall⟩
  rcases e with e | e | e
  · exact .inl e
  · exact .inr (.inl e)
  · exact .inr (.inr ⟨by have := e.1; simp at this; omega, hk⟩)
end Go.Proofs.YthppgchmamonnaaGreatDoor
