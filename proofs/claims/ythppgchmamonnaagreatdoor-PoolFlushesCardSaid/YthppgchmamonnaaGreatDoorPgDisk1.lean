/- Disk: the walks of the small functions: Clone, copied, Len, gone, begin. -/
import Derived.Test.YthppgchmamonnaaGreatDoorChecked
import Derived.Test.YthppgchmamonnaaGreatDoorPgBase
namespace Go.Proofs.YthppgchmamonnaaGreatDoor
open Go.RowKit

theorem tBytes : Plain Tryz.prog 50 5 (.int .u8 0) 1 := Plain.of Tryz.underlying50 (by kernel_rfl) rfl
theorem tInts : Plain Tryz.prog 36 3 (.int .i64 0) 8 := Plain.of Tryz.underlying36 (by kernel_rfl) rfl
theorem tRows : Plain Tryz.prog 70 50 (.slice none 0 0) 24 := Plain.of Tryz.underlying70 (by kernel_rfl) rfl

theorem clone_nil (w : World) :
    Calls Tryz.prog 62 #[.slice none 0 0] w (RetRow w 5 [] True) := by
  have heq := fun w a n c => Lib.run_eql_slice_nil (P := Tryz.prog) w 50 5 a n c 0 0 Tryz.underlying50
  go_enter Tryz.func62, Tryz.ntmps62
  go_wp2
  go_ret
  exact ⟨none, 0, rfl, Own.nil _ _ _, Kept.refl _ _, by simp⟩

theorem clone_some (w : World) (ad : Addr) (cap : Nat) (xs : List Value) (G : Nat → Prop) (hr : Reads w (.slice (some ad) xs.length cap) xs G) (h1 : ∀ u ∈ xs, IsByte u) (hsz : xs.length * 2 ≤ 140737488355328) :
    Calls Tryz.prog 62 #[.slice (some ad) xs.length cap] w (RetRow w 5 xs False) := by
  have heq := fun w a n c => Lib.run_eql_slice_nil (P := Tryz.prog) w 50 5 a n c 0 0 Tryz.underlying50
  have HS := Lib.hid (fun u hu => (h1 u hu).one : ∀ u ∈ xs, u.oneCell' = true)
  clear h1
  go_enter Tryz.func62, Tryz.ntmps62
  go_wp2_with (at_builtin; refine wpList_append_pg rfl _ _ 50 rfl tBytes (.slice (some ⟨w.heap.size, 0, none⟩) 0 0) _ [] xs (From w.heap.size) G rfl rfl (Own.empty_new w _) (hr.alloc _) HS.out (by simpa using hsz) ?_; intro b' cap' w1 ho hk hn)
  go_ret
  refine ⟨b', cap', rfl, ?_, ?_, ?_⟩
  · have := ho.mono (G := From w.heap.size) (fun k _ hk => by simp [Value.ownBlock, From] at *; omega)
    simpa using this
  · refine ((Kept.alloc Nob w _).from (n := w.heap.size) (Nat.le_refl _) (hk.mono ?_))
    intro k _ hk
    simp [Value.ownBlock, From] at *
    omega
  · simpa using hn

/-- slices.Clone of bytes. -/
theorem clone_bytes (w : World) (v : Value) (xs : List Value) (G : Nat → Prop) (hr : Reads w v xs G) (h1 : ∀ u ∈ xs, IsByte u) (hsz : xs.length * 2 ≤ 140737488355328) :
    Calls Tryz.prog 62 #[v] w (RetRow w 5 xs (v = .slice none 0 0)) := by
  obtain ⟨a, cap, rfl, hn⟩ := hr.shape
  cases a with
  | none =>
    have hv := hn.1 rfl
    simp at hv
    obtain rfl := List.eq_nil_of_length_eq_zero (by simpa using hv.1)
    obtain rfl := hv.2
    exact (clone_nil w).mono fun e w' ⟨b, c, h1, h2, h3, h4⟩ => ⟨b, c, h1, h2, h3, by simpa using h4⟩
  | some ad =>
    exact (clone_some w ad cap xs G hr h1 hsz).mono fun e w' ⟨b, c, h1, h2, h3, h4⟩ => ⟨b, c, h1, h2, h3, by simpa using h4⟩

/-- slices.Index of ints -/
def idx (x : Int) : List Int → Nat → Int
  | [], _ => -1
  | y :: r, k => if x = y then k else idx x r (k + 1)

theorem idx_drop (x : Int) : ∀ (xs : List Int) (k j : Nat) (h : k < xs.length), idx x (xs.drop k) j = if x = xs[k] then (j : Int) else idx x (xs.drop (k + 1)) (j + 1) := by
  intro xs k j h
  rw [List.drop_eq_getElem_cons h]
  rfl

theorem index_ints (w : World) (v : Value) (xs : List Int) (x : Int) (G : Nat → Prop) (hr : Reads w v (xs.map (Value.int .i64)) G) (hl : xs.length < 1000000000):
    Calls Tryz.prog 125 #[v, .int .i64 x] w fun e w' => e = .returned (.int .i64 (idx x xs 0)) ∧ w = w' := by
  obtain ⟨ad, cap, rfl, _⟩ := hr.shape
  have hc : ∀ k (h : k < xs.length), ∃ b o, ad = some ⟨b, o, none⟩ ∧ w.cell? ⟨b, o + k, none⟩ = some (.int .i64 xs[k]) := by
    intro k h
    rcases hr with ⟨hx, _⟩ | ⟨b, o, c, hv, _, _, _, hc⟩
    · simp at hx; simp [hx] at h
    · simp at hv
      exact ⟨b, o, hv.1, hc k _ (by simp [h])⟩
  have HC := Lib.hid hc
  clear hc
  simp only [List.length_map]
  go_enter Tryz.func125, Tryz.ntmps125
  go_wp2
  go_loop [8] (fun i => ∃ k : Nat, k ≤ xs.length ∧ i = .int .i64 k ∧ Hid (idx x xs 0 = idx x (xs.drop k) k)) (fun i => xs.length - (intOf i).toNat)
  case atStart => exact ⟨0, Nat.zero_le _, rfl, rfl⟩
  case round =>
    obtain ⟨k, hk, rfl, hidx⟩ := hrel
    by_cases hlt : k < xs.length
    · obtain ⟨b, o, rfl, hcell⟩ := HC.out k hlt
      have hd := Lib.hid (idx_drop x xs k k hlt)
      by_cases hx : x = xs[k]
      · have hxb : (x == xs[k]) = true := by simpa using hx
        clear hx
        go_wp2
        go_ret
        refine ⟨?_, rfl⟩
        rw [hidx.out, hd.out, if_pos (by simpa using hxb)]
        rfl
      · have hxb : (x == xs[k]) = false := by simpa using hx
        clear hx
        go_wp2
        go_round
        case rel => exact ⟨k + 1, by omega, by go_num, show _ = _ by rw [hidx.out, hd.out, if_neg (by simpa using hxb)]⟩
        case measure => simp [intOf]; omega
    · go_wp2
      go_ret
      refine ⟨?_, rfl⟩
      rw [hidx.out, List.drop_of_length_le (by omega)]
      rfl

theorem contains_ints (w : World) (v : Value) (xs : List Int) (x : Int) (G : Nat → Prop) (hr : Reads w v (xs.map (Value.int .i64)) G) (hl : xs.length < 1000000000):
    Calls Tryz.prog 106 #[v, .int .i64 x] w fun e w' => e = .returned (.bool (decide (0 ≤ idx x xs 0))) ∧ w = w' := by
  have H := Lib.hid (index_ints w v xs x G hr hl)
  clear hr
  generalize idx x xs 0 = r at *
  go_enter Tryz.func106, Tryz.ntmps106
  go_wp2_with (go_at_call 125; refine H.out.mono ?_; rintro e w' ⟨rfl, rfl⟩)
  go_ret
  exact ⟨rfl, rfl⟩

/-- what the loop of 'copied' keeps -/
def CopRel (w : World) (xss : List (List Value)) (k : Nat) (v : Value) (wr : World) : Prop :=
  ∃ b cap vs, v = .slice b k cap ∧ vs.length = k ∧ Own wr 50 v vs (From w.heap.size) ∧ RowsAt wr 5 vs (xss.take k) (From w.heap.size) ∧ Kept Nob w wr

theorem CopRel.step {w wr w1 w2 : World} {xss : List (List Value)} {k : Nat} {b : Option Addr} {cap : Nat} {vs : List Value} (hk : k < xss.length) (hl : vs.length = k) (hrow : Own wr 50 (.slice b k cap) vs (From w.heap.size)) (hrows : RowsAt wr 5 vs (xss.take k) (From w.heap.size))
    (hw : Kept Nob w wr) {b1 : Option Addr} {n1 cap1 : Nat} (ho1 : Own w1 5 (.slice b1 n1 cap1) xss[k] (From wr.heap.size)) (h1 : Kept Nob wr w1)
    {g : Nat} {cap2 : Nat} (ho2 : Own w2 50 (.slice (some ⟨g, 0, none⟩) (vs.length + 1) cap2) (vs ++ [.slice b1 n1 cap1]) (fun x => (Value.slice b k cap).ownBlock = some x ∨ (w1.alloc (.cells #[.slice b1 n1 cap1] 50)).heap.size ≤ x))
    (h2 : Kept (fun x => (Value.slice b k cap).ownBlock = some x) (w1.alloc (.cells #[.slice b1 n1 cap1] 50)) w2) : CopRel w xss (k + 1) (.slice (some ⟨g, 0, none⟩) (vs.length + 1) cap2) w2 := by
  have hs0 : w.heap.size ≤ wr.heap.size := hw.size
  have hs1 : wr.heap.size ≤ w1.heap.size := h1.size
  have hrow1 : Own w1 50 (.slice b k cap) vs (From w.heap.size) := hrow.kept h1 (fun _ _ f => f)
  -- a sector's block is not the row's
  have hne : ∀ x, (Value.slice b k cap).ownBlock = some x → ∀ (v : Value) (y : List Value), Own w1 5 v y (From w.heap.size) → v.ownBlock ≠ some x := by
    intro x hx v y hv hvx
    obtain ⟨c1, e1⟩ := hrow1.blockIs hx
    obtain ⟨c2, e2⟩ := hv.blockIs hvx
    rw [e1] at e2
    simp at e2
  have ho1' : Own w1 5 (.slice b1 n1 cap1) xss[k] (From w.heap.size) := ho1.mono (fun x _ hx => Nat.le_trans hs0 hx)
  have keep : ∀ (v : Value) (y : List Value), Own w1 5 v y (From w.heap.size) → Own w2 5 v y (From w.heap.size) := by
    intro v y hv
    have hv' := hv.alloc (.cells #[.slice b1 n1 cap1] 50)
    have hv2 : Own (w1.alloc (.cells #[.slice b1 n1 cap1] 50)) 5 v y (fun x => v.ownBlock = some x) := ⟨hv'.1, fun g hg => hg⟩
    exact ⟨(hv2.kept h2 (fun x hx hb => hne x hb v y hv hx)).1, hv.2⟩
  refine ⟨_, cap2, vs ++ [.slice b1 n1 cap1], by rw [hl], by simp [hl], ho2.mono ?_, ?_, ?_⟩
  · intro x _ hx
    rcases hx with hx | hx
    · exact hrow.2 x hx
    · simp at hx; simp [From]; omega
  · have e1 : xss.take (k + 1) = xss.take k ++ [xss[k]] := by rw [List.take_succ_eq_append_getElem hk]
    rw [e1]
    have hrows1 := hrows.kept h1 (fun _ _ f => f)
    have hrows2 : RowsAt w2 5 vs (xss.take k) (From w.heap.size) := ⟨hrows1.len, fun i v x a c => keep v x (hrows1.own i v x a c), hrows1.apart⟩
    refine hrows2.snoc (keep _ _ ho1') fun i u x hu hx => ?_
    intro hb
    have hxl : i < (xss.take k).length := by rw [← hrows.len]; exact (List.getElem?_eq_some_iff.1 hu).1
    have : x < wr.heap.size := (hrows.own i u _ hu (List.getElem?_eq_getElem hxl)).blockLt hx
    have h4 : wr.heap.size ≤ x := ho1.2 x hb
    omega
  · refine (hw.then h1).from (n := w.heap.size) (Nat.le_refl _) ?_
    exact ((Kept.alloc (From w.heap.size) w1 _).trans h2 (fun x _ hx => hrow.2 x hx))

theorem copied_any (w : World) (v : Value) (xss : List (List Value)) (G : Nat → Prop) (h : OwnRows w 50 5 v xss G) (hb : xss.length ≤ 100000) (hb2 : ∀ x ∈ xss, x.length ≤ 100000 ∧ ∀ u ∈ x, IsByte u) :
    Calls Tryz.prog 32 #[v] w (RetRows w 50 5 xss) := by
  obtain ⟨vs, hv, hr⟩ := h
  have hvl := hr.len
  obtain ⟨ad, cap, rfl, _⟩ := hv.reads.shape
  have HB := Lib.hid hb2
  clear hb2
  rw [hvl] at hv ⊢
  have HV := Lib.hid hv
  have HL := Lib.hid hvl
  clear hvl hv
  go_enter Tryz.func32, Tryz.ntmps32
  go_wp2
  go_loopw [2, 7] (fun o i wr => ∃ k : Nat, k ≤ xss.length ∧ i = .int .i64 k ∧ CopRel w xss k o wr) (fun _ i _ => xss.length - (intOf i).toNat)
  case atStart => exact ⟨0, Nat.zero_le _, rfl, none, 0, [], rfl, rfl, Own.nil _ _ _, RowsAt.nil _ _ _, Kept.refl _ _⟩
  case round =>
    obtain ⟨k, hk, rfl, b, c, vs', rfl, hl', hrow, hrows, hw⟩ := hrel
    have HL' := Lib.hid hl'
    clear hl'
    by_cases hlt : k < xss.length
    · have hv := HV.out.kept hw (fun _ _ f => f)
      obtain ⟨g, rfl⟩ : ∃ g, ad = some ⟨g, 0, none⟩ := by
        rcases hv.shape with ⟨hx, hz⟩ | ⟨g, c', cur, hx, _⟩
        · have := HL.out; simp [hz] at this; omega
        · simp at hx; exact ⟨g, hx.1⟩
      have hkv : k < vs.length := by rw [HL.out]; exact hlt
      have hcell := hv.cell k vs[k] (List.getElem?_eq_getElem hkv)
      have hsec := (hr.own k vs[k] xss[k] (List.getElem?_eq_getElem hkv) (List.getElem?_eq_getElem hlt)).kept hw (fun _ _ f => f)
      have hB := HB.out xss[k] (List.getElem_mem hlt)
      have hcb := clone_bytes wr vs[k] xss[k] G hsec.reads hB.2 (by have := hB.1; omega)
      obtain ⟨ak, ck, hvk, _⟩ := hsec.reads.shape
      rw [hvk] at hcb hcell
      have HC := Lib.hid hcb
      have hlx := hB.1
      clear hsec hB hv hvk hcb
      go_wp2_with (first | (go_at_call 62; refine HC.out.mono ?_; rintro e w1 ⟨b1, cap1, rfl, ho1, hk1, hn1⟩) | (at_builtin; refine wpList_append1_pg rfl _ _ 70 rfl tRows (.slice b k c) vs' (.slice b1 xss[k].length cap1) (From w.heap.size) ⟨w1.heap.size, 0, none⟩ 1 rfl rfl ((hrow.kept hk1 (fun _ _ f => f)).alloc _) (by simp) rfl (Nat.le_refl _) rfl (by have := HL'.out; omega) ?_; intro g2 cap2 w2 ho2 hk2))
      have hst := Lib.hid (CopRel.step hlt HL'.out hrow hrows hw ho1 hk1 ho2 hk2)
      clear ho1 hk1 ho2 hk2
      go_roundw
      case rel => exact ⟨k + 1, by omega, by go_num, hst.out⟩
      case measure => simp [intOf]; omega
    · go_wp2
      go_ret
      obtain rfl : k = xss.length := by omega
      exact ⟨b, c, rfl, ⟨vs', hrow, by rw [List.take_length] at hrows; exact hrows⟩, hw⟩
end Go.Proofs.YthppgchmamonnaaGreatDoor
