/- Disk: the walks of the small functions: Clone, copied, Len, gone, begin. Small words: cells of a block, errors that are faults, what a law ends in. Disk: what a disk is in memory, and the walks of the methods. Disk: New of a fault, Read, Write. -/
import Derived.Test.YthppgchmamonnaaGreatDoorPq01
import Derived.Test.YthppgchmamonnaaGreatDoorPq02
import Derived.Test.YthppgchmamonnaaGreatDoorChecked
namespace Go.Proofs.YthppgchmamonnaaGreatDoor
open Go.RowKit
theorem tBytes : Plain Tryz.prog 50 5 (.int .u8 0) 1 := Plain.of Tryz.underlying50 (by kernel_rfl) rfl
theorem tInts : Plain Tryz.prog 36 3 (.int .i64 0) 8 := Plain.of Tryz.underlying36 (by kernel_rfl) rfl
theorem tRows : Plain Tryz.prog 70 50 (.slice none 0 0) 24 := Plain.of Tryz.underlying70 (by kernel_rfl) rfl
theorem clone_nil (w : World) :
    Calls Tryz.prog 62 #[.slice none 0 0] w (RetRow w 5 [] True) := by
  have heq := fun w a n c => Lib.run_eql_slice_nil (P := Tryz.prog) w 50 5 a n c 0 0 Tryz.underlying50
  go_enter Tryz.func62, Tryz.ntmps62
  go_wp2
  go_ret
  exact ⟨none, 0, rfl, Own.nil _ _ _, Kept.refl _ _, by simp⟩
theorem clone_some (w : World) (ad : Addr) (cap : Nat) (xs : List Value) (G : Nat → Prop) (hr : Reads w (.slice (some ad) xs.length cap) xs G) (h1 : ∀ u ∈ xs, IsByte u) (hsz : xs.length * 2 ≤ 140737488355328) :
    Calls Tryz.prog 62 #[.slice (some ad) xs.length cap] w (RetRow w 5 xs False) := by
  have heq := fun w a n c => Lib.run_eql_slice_nil (P := Tryz.prog) w 50 5 a n c 0 0 Tryz.underlying50
  have HS := Lib.hid (fun u hu => (h1 u hu).one : ∀ u ∈ xs, u.oneCell' = true)
  clear h1
  go_enter Tryz.func62, Tryz.ntmps62
  go_wp2_with (at_builtin; refine wpList_append_pg rfl _ _ 50 rfl tBytes (.slice (some ⟨w.heap.size, 0, none⟩) 0 0) _ [] xs (From w.heap.size) G rfl rfl (Own.empty_new w _) (hr.alloc _) HS.out (by simpa using hsz) ?_; intro b' cap' w1 ho hk hn)
  go_ret
  refine ⟨b', cap', rfl, ?_, ?_, ?_⟩
  · have := ho.mono (G := From w.heap.size) (fun k _ hk => by simp [Value.ownBlock, From] at *; omega)
    simpa using this
  · refine ((Kept.alloc Nob w _).from (n := w.heap.size) (Nat.le_refl _) (hk.mono ?_))
    intro k _ hk
    simp [Value.ownBlock, From] at *
    omega
  · simpa using hn
theorem clone_bytes (w : World) (v : Value) (xs : List Value) (G : Nat → Prop) (hr : Reads w v xs G) (h1 : ∀ u ∈ xs, IsByte u) (hsz : xs.length * 2 ≤ 140737488355328) :
    Calls Tryz.prog 62 #[v] w (RetRow w 5 xs (v = .slice none 0 0)) := by
  obtain ⟨a, cap, rfl, hn⟩ := hr.shape
  cases a with
  | none =>
    have hv := hn.1 rfl
    simp at hv
    obtain rfl := List.eq_nil_of_length_eq_zero (by simpa using hv.1)
    obtain rfl := hv.2
    exact (clone_nil w).mono fun e w' ⟨b, c, h1, h2, h3, h4⟩ => ⟨b, c, h1, h2, h3, by simpa using h4⟩
  | some ad =>
    exact (clone_some w ad cap xs G hr h1 hsz).mono fun e w' ⟨b, c, h1, h2, h3, h4⟩ => ⟨b, c, h1, h2, h3, by simpa using h4⟩
def idx (x : Int) : List Int → Nat → Int
  | [], _ => -1
  | y :: r, k => if x = y then k else idx x r (k + 1)
theorem idx_drop (x : Int) : ∀ (xs : List Int) (k j : Nat) (h : k < xs.length), idx x (xs.drop k) j = if x = xs[k] then (j : Int) else idx x (xs.drop (k + 1)) (j + 1) := by
  intro xs k j h
  rw [List.drop_eq_getElem_cons h]
  rfl
theorem index_ints (w : World) (v : Value) (xs : List Int) (x : Int) (G : Nat → Prop) (hr : Reads w v (xs.map (Value.int .i64)) G) (hl : xs.length < 1000000000):
    Calls Tryz.prog 125 #[v, .int .i64 x] w fun e w' => e = .returned (.int .i64 (idx x xs 0)) ∧ w = w' := by
  obtain ⟨ad, cap, rfl, _⟩ := hr.shape
  have hc : ∀ k (h : k < xs.length), ∃ b o, ad = some ⟨b, o, none⟩ ∧ w.cell? ⟨b, o + k, none⟩ = some (.int .i64 xs[k]) := by
    intro k h
    rcases hr with ⟨hx, _⟩ | ⟨b, o, c, hv, _, _, _, hc⟩
    · simp at hx; simp [hx] at h
    · simp at hv
      exact ⟨b, o, hv.1, hc k _ (by simp [h])⟩
  have HC := Lib.hid hc
  clear hc
  simp only [List.length_map]
  go_enter Tryz.func125, Tryz.ntmps125
  go_wp2
  go_loop [8] (fun i => ∃ k : Nat, k ≤ xs.length ∧ i = .int .i64 k ∧ Hid (idx x xs 0 = idx x (xs.drop k) k)) (fun i => xs.length - (intOf i).toNat)
  case atStart => exact ⟨0, Nat.zero_le _, rfl, rfl⟩
  case round =>
    obtain ⟨k, hk, rfl, hidx⟩ := hrel
    by_cases hlt : k < xs.length
    · obtain ⟨b, o, rfl, hcell⟩ := HC.out k hlt
      have hd := Lib.hid (idx_drop x xs k k hlt)
      by_cases hx : x = xs[k]
      · have hxb : (x == xs[k]) = true := by simpa using hx
        clear hx
        go_wp2
        go_ret
        refine ⟨?_, rfl⟩
        rw [hidx.out, hd.out, if_pos (by simpa using hxb)]
        rfl
      · have hxb : (x == xs[k]) = false := by simpa using hx
        clear hx
        go_wp2
        go_round
        case rel => exact ⟨k + 1, by omega, by go_num, show _ = _ by rw [hidx.out, hd.out, if_neg (by simpa using hxb)]⟩
        case measure => simp [intOf]; omega
    · go_wp2
      go_ret
      refine ⟨?_, rfl⟩
      rw [hidx.out, List.drop_of_length_le (by omega)]
      rfl
theorem contains_ints (w : World) (v : Value) (xs : List Int) (x : Int) (G : Nat → Prop) (hr : Reads w v (xs.map (Value.int .i64)) G) (hl : xs.length < 1000000000):
    Calls Tryz.prog 106 #[v, .int .i64 x] w fun e w' => e = .returned (.bool (decide (0 ≤ idx x xs 0))) ∧ w = w' := by
  have H := Lib.hid (index_ints w v xs x G hr hl)
  clear hr
  generalize idx x xs 0 = r at *
  go_enter Tryz.func106, Tryz.ntmps106
  go_wp2_with (go_at_call 125; refine H.out.mono ?_; rintro e w' ⟨rfl, rfl⟩)
  go_ret
  exact ⟨rfl, rfl⟩
def CopRel (w : World) (xss : List (List Value)) (k : Nat) (v : Value) (wr : World) : Prop :=
  ∃ b cap vs, v = .slice b k cap ∧ vs.length = k ∧ Own wr 50 v vs (From w.heap.size) ∧ RowsAt wr 5 vs (xss.take k) (From w.heap.size) ∧ Kept Nob w wr
theorem CopRel.step {w wr w1 w2 : World} {xss : List (List Value)} {k : Nat} {b : Option Addr} {cap : Nat} {vs : List Value} (hk : k < xss.length) (hl : vs.length = k) (hrow : Own wr 50 (.slice b k cap) vs (From w.heap.size)) (hrows : RowsAt wr 5 vs (xss.take k) (From w.heap.size))
    (hw : Kept Nob w wr) {b1 : Option Addr} {n1 cap1 : Nat} (ho1 : Own w1 5 (.slice b1 n1 cap1) xss[k] (From wr.heap.size)) (h1 : Kept Nob wr w1)
    {g : Nat} {cap2 : Nat} (ho2 : Own w2 50 (.slice (some ⟨g, 0, none⟩) (vs.length + 1) cap2) (vs ++ [.slice b1 n1 cap1]) (fun x => (Value.slice b k cap).ownBlock = some x ∨ (w1.alloc (.cells #[.slice b1 n1 cap1] 50)).heap.size ≤ x))
    (h2 : Kept (fun x => (Value.slice b k cap).ownBlock = some x) (w1.alloc (.cells #[.slice b1 n1 cap1] 50)) w2) : CopRel w xss (k + 1) (.slice (some ⟨g, 0, none⟩) (vs.length + 1) cap2) w2 := by
  have hs0 : w.heap.size ≤ wr.heap.size := hw.size
  have hs1 : wr.heap.size ≤ w1.heap.size := h1.size
  have hrow1 : Own w1 50 (.slice b k cap) vs (From w.heap.size) := hrow.kept h1 (fun _ _ f => f)
  have hne : ∀ x, (Value.slice b k cap).ownBlock = some x → ∀ (v : Value) (y : List Value), Own w1 5 v y (From w.heap.size) → v.ownBlock ≠ some x := by
    intro x hx v y hv hvx
    obtain ⟨c1, e1⟩ := hrow1.blockIs hx
    obtain ⟨c2, e2⟩ := hv.blockIs hvx
    rw [e1] at e2
    simp at e2
  have ho1' : Own w1 5 (.slice b1 n1 cap1) xss[k] (From w.heap.size) := ho1.mono (fun x _ hx => Nat.le_trans hs0 hx)
  have keep : ∀ (v : Value) (y : List Value), Own w1 5 v y (From w.heap.size) → Own w2 5 v y (From w.heap.size) := by
    intro v y hv
    have hv' := hv.alloc (.cells #[.slice b1 n1 cap1] 50)
    have hv2 : Own (w1.alloc (.cells #[.slice b1 n1 cap1] 50)) 5 v y (fun x => v.ownBlock = some x) := ⟨hv'.1, fun g hg => hg⟩
    exact ⟨(hv2.kept h2 (fun x hx hb => hne x hb v y hv hx)).1, hv.2⟩
  refine ⟨_, cap2, vs ++ [.slice b1 n1 cap1], by rw [hl], by simp [hl], ho2.mono ?_, ?_, ?_⟩
  · intro x _ hx
    rcases hx with hx | hx
    · exact hrow.2 x hx
    · simp at hx; simp [From]; omega
  · have e1 : xss.take (k + 1) = xss.take k ++ [xss[k]] := by rw [List.take_succ_eq_append_getElem hk]
    rw [e1]
    have hrows1 := hrows.kept h1 (fun _ _ f => f)
    have hrows2 : RowsAt w2 5 vs (xss.take k) (From w.heap.size) := ⟨hrows1.len, fun i v x a c => keep v x (hrows1.own i v x a c), hrows1.apart⟩
    refine hrows2.snoc (keep _ _ ho1') fun i u x hu hx => ?_
    intro hb
    have hxl : i < (xss.take k).length := by rw [← hrows.len]; exact (List.getElem?_eq_some_iff.1 hu).1
    have : x < wr.heap.size := (hrows.own i u _ hu (List.getElem?_eq_getElem hxl)).blockLt hx
    have h4 : wr.heap.size ≤ x := ho1.2 x hb
    omega
  · refine (hw.then h1).from (n := w.heap.size) (Nat.le_refl _) ?_
    exact ((Kept.alloc (From w.heap.size) w1 _).trans h2 (fun x _ hx => hrow.2 x hx))
theorem copied_any (w : World) (v : Value) (xss : List (List Value)) (G : Nat → Prop) (h : OwnRows w 50 5 v xss G) (hb : xss.length ≤ 100000) (hb2 : ∀ x ∈ xss, x.length ≤ 100000 ∧ ∀ u ∈ x, IsByte u) :
    Calls Tryz.prog 32 #[v] w (RetRows w 50 5 xss) := by
  obtain ⟨vs, hv, hr⟩ := h
  have hvl := hr.len
  obtain ⟨ad, cap, rfl, _⟩ := hv.reads.shape
  have HB := Lib.hid hb2
  clear hb2
  rw [hvl] at hv ⊢
  have HV := Lib.hid hv
  have HL := Lib.hid hvl
  clear hvl hv
  go_enter Tryz.func32, Tryz.ntmps32
  go_wp2
  go_loopw [2, 7] (fun o i wr => ∃ k : Nat, k ≤ xss.length ∧ i = .int .i64 k ∧ CopRel w xss k o wr) (fun _ i _ => xss.length - (intOf i).toNat)
  case atStart => exact ⟨0, Nat.zero_le _, rfl, none, 0, [], rfl, rfl, Own.nil _ _ _, RowsAt.nil _ _ _, Kept.refl _ _⟩
  case round =>
    obtain ⟨k, hk, rfl, b, c, vs', rfl, hl', hrow, hrows, hw⟩ := hrel
    have HL' := Lib.hid hl'
    clear hl'
    by_cases hlt : k < xss.length
    · have hv := HV.out.kept hw (fun _ _ f => f)
      obtain ⟨g, rfl⟩ : ∃ g, ad = some ⟨g, 0, none⟩ := by
        rcases hv.shape with ⟨hx, hz⟩ | ⟨g, c', cur, hx, _⟩
        · have := HL.out; simp [hz] at this; omega
        · simp at hx; exact ⟨g, hx.1⟩
      have hkv : k < vs.length := by rw [HL.out]; exact hlt
      have hcell := hv.cell k vs[k] (List.getElem?_eq_getElem hkv)
      have hsec := (hr.own k vs[k] xss[k] (List.getElem?_eq_getElem hkv) (List.getElem?_eq_getElem hlt)).kept hw (fun _ _ f => f)
      have hB := HB.out xss[k] (List.getElem_mem hlt)
      have hcb := clone_bytes wr vs[k] xss[k] G hsec.reads hB.2 (by have := hB.1; omega)
      obtain ⟨ak, ck, hvk, _⟩ := hsec.reads.shape
      rw [hvk] at hcb hcell
      have HC := Lib.hid hcb
      have hlx := hB.1
      clear hsec hB hv hvk hcb
      go_wp2_with (first | (go_at_call 62; refine HC.out.mono ?_; rintro e w1 ⟨b1, cap1, rfl, ho1, hk1, hn1⟩) | (at_builtin; refine wpList_append1_pg rfl _ _ 70 rfl tRows (.slice b k c) vs' (.slice b1 xss[k].length cap1) (From w.heap.size) ⟨w1.heap.size, 0, none⟩ 1 rfl rfl ((hrow.kept hk1 (fun _ _ f => f)).alloc _) (by simp) rfl (Nat.le_refl _) rfl (by have := HL'.out; omega) ?_; intro g2 cap2 w2 ho2 hk2))
      have hst := Lib.hid (CopRel.step hlt HL'.out hrow hrows hw ho1 hk1 ho2 hk2)
      clear ho1 hk1 ho2 hk2
      go_roundw
      case rel => exact ⟨k + 1, by omega, by go_num, hst.out⟩
      case measure => simp [intOf]; omega
    · go_wp2
      go_ret
      obtain rfl : k = xss.length := by omega
      exact ⟨b, c, rfl, ⟨vs', hrow, by rw [List.take_length] at hrows; exact hrows⟩, hw⟩
theorem cell_at {w : World} {b : Nat} {cs : Array Value} {e : TypeId} {fz : Nat × Nat} (hb : w.heap[b]? = some (.cells cs e fz)) (i : Nat) (v : Value) (hi : cs[i]? = some v) : w.cell? ⟨b, i, none⟩ = some v := by
  rw [cell_of_row w b i cs e fz hb, hi]
theorem frozen_at {w : World} {b : Nat} {cs : Array Value} {e : TypeId} (hb : w.heap[b]? = some (.cells cs e (0, 0))) (i : Nat) : w.frozen? ⟨b, i, none⟩ = false := frozen_of_row w b i cs e hb
theorem ret_bool {a b : Bool} (h : a = b) : Ending.returned (.bool a) = .returned (.bool b) := by rw [h]
theorem ret_int {k : IntKind} {a b : Int} (h : a = b) : Ending.returned (.int k a) = .returned (.int k b) := by rw [h]
def FaultAt (w : World) (v : Value) (op : ByteArray) (id : Int) (code : Int) (F : Nat → Prop) : Prop :=
  ∃ g, v = .iface 81 (.pointer (some ⟨g, 0, none⟩)) ∧ F g ∧ g < w.heap.size ∧ w.heap[g]? = some (.cells #[.string op, .int .i64 id, .iface 69 (.int .i64 code)] 85 (0, 0))
theorem FaultAt.kept {w w' : World} {v : Value} {op : ByteArray} {id code : Int} {F G : Nat → Prop} (h : FaultAt w v op id code F) (hk : Kept G w w') (hd : ∀ k, F k → ¬ G k) : FaultAt w' v op id code F := by
  obtain ⟨g, h1, h2, h3, h4⟩ := h
  exact ⟨g, h1, h2, Nat.lt_of_lt_of_le h3 hk.size, (hk.block g h3 (hd g h2)).trans h4⟩
theorem FaultAt.mono {w : World} {v : Value} {op : ByteArray} {id code : Int} {F G : Nat → Prop} (h : FaultAt w v op id code F) (hg : ∀ k, k < w.heap.size → F k → G k) : FaultAt w v op id code G := by
  obtain ⟨g, h1, h2, h3, h4⟩ := h
  exact ⟨g, h1, hg g h3 h2, h3, h4⟩
def RetFault (w : World) (op : ByteArray) (id code : Int) (en : Ending) (w' : World) : Prop :=
  ∃ g, en = .returned (.iface 81 (.pointer (some ⟨g, 0, none⟩))) ∧ FaultAt w' (.iface 81 (.pointer (some ⟨g, 0, none⟩))) op id code (From w.heap.size) ∧ Kept Nob w w'
theorem fault_new (w : World) (op : ByteArray) (id code : Int) :
    Calls Tryz.prog 31 #[.string op, .int .i64 id, .iface 69 (.int .i64 code)] w (RetFault w op id code) := by
  go_enter Tryz.func31, Tryz.ntmps31
  go_wp2
  go_ret
  exact ⟨w.heap.size, rfl, ⟨_, rfl, Nat.le_refl _, by simp, heap_alloc_new w _⟩, Kept.alloc _ _ _⟩
def RetTrue (w : World) (en : Ending) (w' : World) : Prop := en = .returned (.bool true) ∧ Kept Nob w w'
def DiskAt (w : World) (b : Nat) (d : Dsk) (F : Nat → Prop) : Prop :=
  ∃ gv nv ov, w.heap[b]? = some (.cells #[gv, nv, ov, .int .i64 d.ops, .bool d.cut, .int .i64 d.left, .bool d.off] 72 (0, 0)) ∧ F b ∧
    OwnRows w 50 5 gv d.good F ∧ OwnRows w 50 5 nv d.now F ∧ Own w 3 ov (d.order.map (Value.int .i64)) F ∧
    (∀ g, gv.ownBlock = some g → nv.ownBlock ≠ some g) ∧ d.Wf ∧ Under F w.heap.size
theorem DiskAt.wf {w : World} {b : Nat} {d : Dsk} {F : Nat → Prop} (h : DiskAt w b d F) : d.Wf := by obtain ⟨_, _, _, _, _, _, _, _, _, h, _⟩ := h; exact h
theorem DiskAt.under {w : World} {b : Nat} {d : Dsk} {F : Nat → Prop} (h : DiskAt w b d F) : Under F w.heap.size := by obtain ⟨_, _, _, _, _, _, _, _, _, _, h⟩ := h; exact h
theorem DiskAt.has {w : World} {b : Nat} {d : Dsk} {F : Nat → Prop} (h : DiskAt w b d F) : F b := by obtain ⟨_, _, _, _, h, _⟩ := h; exact h
theorem DiskAt.kept {w w' : World} {b : Nat} {d : Dsk} {F G : Nat → Prop} (h : DiskAt w b d F) (hk : Kept G w w') (hd : Disj F G) : DiskAt w' b d F := by
  obtain ⟨gv, nv, ov, hb, hF, hg, hn, ho, ha, hw, hu⟩ := h
  have hlt : b < w.heap.size := (Array.getElem?_eq_some_iff.1 hb).1
  exact ⟨gv, nv, ov, (hk.block b hlt (hd b hF)).trans hb, hF, hg.kept hk hd, hn.kept hk hd, ho.kept hk hd, ha, hw, hu.mono hk.size⟩
theorem DiskAt.scalars {w w' : World} {b : Nat} {d d' : Dsk} {F : Nat → Prop} {gv nv ov : Value}
    (hb : w.heap[b]? = some (.cells #[gv, nv, ov, .int .i64 d.ops, .bool d.cut, .int .i64 d.left, .bool d.off] 72 (0, 0)))
    (hF : F b) (hg : OwnRows w 50 5 gv d.good F) (hn : OwnRows w 50 5 nv d.now F) (ho : Own w 3 ov (d.order.map (Value.int .i64)) F)
    (ha : ∀ g, gv.ownBlock = some g → nv.ownBlock ≠ some g) (hu : Under F w.heap.size) (hk : Kept (Just b) w w')
    (hb' : w'.heap[b]? = some (.cells #[gv, nv, ov, .int .i64 d'.ops, .bool d'.cut, .int .i64 d'.left, .bool d'.off] 72 (0, 0)))
    (e1 : d'.good = d.good) (e2 : d'.now = d.now) (e3 : d'.order = d.order) (hw : d'.Wf) : DiskAt w' b d' F := by
  have hd : ∀ k, Just b k → ∃ cs e' fz, w.heap[k]? = some (.cells cs e' fz) ∧ e' ≠ 50 ∧ e' ≠ 5 := fun k hk => by
    rw [show k = b from hk]; exact ⟨_, _, _, hb, by decide, by decide⟩
  refine ⟨gv, nv, ov, hb', hF, ?_, ?_, ?_, ha, hw, hu.mono hk.size⟩
  · rw [e1]; exact hg.keptT hk hd
  · rw [e2]; exact hn.keptT hk hd
  · rw [e3]; exact ho.keptT hk fun k hk' => by rw [show k = b from hk']; exact ho.not_in hb (by decide)
theorem disk_len (w : World) (b : Nat) (d : Dsk) (F : Nat → Prop) (h : DiskAt w b d F) :
    Calls Tryz.prog 33 #[.pointer (some ⟨b, 0, none⟩)] w fun e w' => e = .returned (.int .i64 d.good.length) ∧ w = w' := by
  obtain ⟨gv, nv, ov, hb, hF, hg, ⟨vs, hn, hn2⟩, ho, ha, hw, hu⟩ := h
  obtain ⟨a, c, rfl, _⟩ := hn.reads.shape
  have h1 := cell_at hb 1 _ rfl
  have e1 : vs.length = d.good.length := by rw [hn2.len, hw.len]
  rw [e1] at h1
  clear hb hg hn hn2 ho ha e1
  generalize d.good.length = n at *
  go_enter Tryz.func33, Tryz.ntmps33
  go_wp2
  go_ret
  exact ⟨rfl, rfl⟩
theorem disk_gone (w : World) (b : Nat) (d : Dsk) (F : Nat → Prop) (h : DiskAt w b d F) :
    Calls Tryz.prog 40 #[.pointer (some ⟨b, 0, none⟩)] w fun e w' => e = .returned (.bool false) ∧ w = w' := by
  have H := Lib.hid (disk_len w b d F h)
  have hp := h.wf.pos
  have hm := h.wf.most
  clear h
  have h0 : ((d.good.length : Int) == 0) = false := beq_eq_false_iff_ne.2 (by omega)
  generalize d.good.length = n at *
  go_enter Tryz.func40, Tryz.ntmps40
  go_wp2_with (go_at_call 33; refine H.out.mono ?_; rintro e w' ⟨rfl, rfl⟩)
  go_ret
  exact ⟨rfl, rfl⟩
theorem heap_set (w : World) (b i : Nat) (cs : Array Value) (e : TypeId) (v : Value) (hb : w.heap[b]? = some (.cells cs e (0, 0))) : (w.setCell ⟨b, i, none⟩ v).heap[b]? = some (.cells (cs.setIfInBounds i v) e (0, 0)) :=
  heap_setCell_same w b i cs e v hb
theorem kept2 (w : World) (b i j : Nat) (v u : Value) : Kept (Just b) w ((w.setCell ⟨b, i, none⟩ v).setCell ⟨b, j, none⟩ u) := (kept1 w b i v).trans' (kept1 _ b j u)
theorem kept3 (w : World) (b i j k : Nat) (v u x : Value) : Kept (Just b) w (((w.setCell ⟨b, i, none⟩ v).setCell ⟨b, j, none⟩ u).setCell ⟨b, k, none⟩ x) := (kept2 w b i j v u).trans' (kept1 _ b k x)
theorem heap2 (w : World) (b i j : Nat) (v u : Value) (cs : Array Value) (e : TypeId) (hb : w.heap[b]? = some (.cells cs e (0, 0))) : ((w.setCell ⟨b, i, none⟩ v).setCell ⟨b, j, none⟩ u).heap[b]? = some (.cells ((cs.setIfInBounds i v).setIfInBounds j u) e (0, 0)) :=
  heap_set _ b j _ _ _ (heap_set _ b i _ _ _ hb)
theorem heap3 (w : World) (b i j k : Nat) (v u x : Value) (cs : Array Value) (e : TypeId) (hb : w.heap[b]? = some (.cells cs e (0, 0))) : (((w.setCell ⟨b, i, none⟩ v).setCell ⟨b, j, none⟩ u).setCell ⟨b, k, none⟩ x).heap[b]? = some (.cells (((cs.setIfInBounds i v).setIfInBounds j u).setIfInBounds k x) e (0, 0)) :=
  heap_set _ b k _ _ _ (heap2 w b i j v u cs e hb)
theorem disk_begin (w : World) (b : Nat) (d : Dsk) (F : Nat → Prop) (h : DiskAt w b d F) (hops : d.ops < 9223372036854775807) :
    Calls Tryz.prog 79 #[.pointer (some ⟨b, 0, none⟩)] w fun e w' => e = .returned (.bool d.goes) ∧ DiskAt w' b d.begun F ∧ Kept (Just b) w w' := by
  obtain ⟨gv, nv, ov, hb, hF, hg, hn, ho, ha, hw, hu⟩ := h
  have c3 := cell_at hb 3 _ rfl
  have c4 := cell_at hb 4 _ rfl
  have c5 := cell_at hb 5 _ rfl
  have c6 := cell_at hb 6 _ rfl
  have f3 := frozen_at hb 3
  have f5 := frozen_at hb 5
  have f6 := frozen_at hb 6
  have hfin := fun w' hk hb' => DiskAt.scalars (w' := w') (d' := d.begun) hb hF hg hn ho ha hu hk hb' rfl rfl rfl hw.begun
  have HF := Lib.hid hfin
  have HB := Lib.hid hb
  have o1 := hw.ops
  have l1 := hw.left.1
  have l2 := hw.left.2
  clear hfin hb hg hn ho ha hw hu
  obtain ⟨good, now, order, ops, cut, left, off⟩ := d
  simp only at *
  cases off <;> cases cut
  all_goals try (by_cases hl : left < 1)
  all_goals
    go_enter Tryz.func79, Tryz.ntmps79
    go_wp2
    go_ret
  all_goals
    refine ⟨ret_bool (by simp [Dsk.goes]; try omega), HF.out _ ?_ ?_, ?_⟩
    · first | with_reducible exact kept2 w b _ _ _ _ | with_reducible exact kept3 w b _ _ _ _ _ _
    · first
        | (with_reducible refine (heap2 w b _ _ _ _ _ _ HB.out).trans ?_); simp [Dsk.begun, Dsk.goes, *]; done
        | (with_reducible refine (heap3 w b _ _ _ _ _ _ _ _ HB.out).trans ?_); simp [Dsk.begun, Dsk.goes, *]; done
    · first | with_reducible exact kept2 w b _ _ _ _ | with_reducible exact kept3 w b _ _ _ _ _ _
def RetRead (w : World) (x : List Value) (en : Ending) (w' : World) : Prop :=
  ∃ b cap, en = .returned (.tuple #[.slice b x.length cap, .nilIface]) ∧ Own w' 5 (.slice b x.length cap) x (From w.heap.size) ∧ Kept Nob w w'
def opWrite : ByteArray := ⟨#[119, 114, 105, 116, 101]⟩
def opSync : ByteArray := ⟨#[115, 121, 110, 99]⟩
theorem disk_read (w : World) (b : Nat) (d : Dsk) (F : Nat → Prop) (h : DiskAt w b d F) (k : Nat) (hk : k < d.good.length) :
    Calls Tryz.prog 64 #[.pointer (some ⟨b, 0, none⟩), .int .i64 k] w (RetRead w (d.now.getD k [])) := by
  have H := Lib.hid (disk_len w b d F h)
  obtain ⟨gv, nv, ov, hb, hF, hg, ⟨vs, hn, hn2⟩, ho, ha, hw, hu⟩ := h
  have hkn : k < d.now.length := by rw [hw.len]; exact hk
  have hkv : k < vs.length := by rw [hn2.len]; exact hkn
  have hm := hw.most
  obtain ⟨g, cap, rfl⟩ : ∃ g cap, nv = .slice (some ⟨g, 0, none⟩) vs.length cap := by
    rcases hn.shape with ⟨_, hz⟩ | ⟨g, c', cur, hx, _⟩
    · simp [hz] at hkv
    · exact ⟨g, c', hx⟩
  have hc1 := cell_at hb 1 _ rfl
  have hcell := hn.cell k vs[k] (List.getElem?_eq_getElem hkv)
  have hx : d.now.getD k [] = d.now[k] := by rw [List.getD_eq_getElem?_getD, List.getElem?_eq_getElem hkn]; rfl
  have hsec := hn2.own k vs[k] d.now[k] (List.getElem?_eq_getElem hkv) (List.getElem?_eq_getElem hkn)
  have hS := hw.now d.now[k] (List.getElem_mem hkn)
  have hcl := clone_bytes w vs[k] d.now[k] F hsec.reads hS.2 (by have := hS.1; omega)
  obtain ⟨ak, ck, hvk, _⟩ := hsec.reads.shape
  rw [hvk] at hcl hcell
  rw [hx]
  have HC := Lib.hid hcl
  have HV := Lib.hid hn2.len
  clear hcl hvk hsec hS hx ho ha hu hF hg hn hb hn2
  have hlv : vs.length = d.good.length := by rw [HV.out, hw.len]
  have hlt : decide ((d.good.length : Int) ≤ (k : Int)) = false := by simp; omega
  rw [hlv] at hc1
  clear hlv hw
  generalize d.good.length = n at *
  generalize d.now[k] = x at *
  go_enter Tryz.func64, Tryz.ntmps64
  go_wp2_with (first | (go_at_call 33; refine H.out.mono ?_; rintro e w' ⟨rfl, rfl⟩) | (go_at_call 62; refine HC.out.mono ?_; rintro e w1 ⟨b1, cap1, rfl, ho1, hk1, hn1⟩))
  go_ret2
  exact ⟨b1, cap1, rfl, ho1, hk1⟩
end Go.Proofs.YthppgchmamonnaaGreatDoor
