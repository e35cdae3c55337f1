/- The log: Clone of rows, no error wrapped, records that are too long. -/
import Derived.Test.YtcclbaphdblcfaaDoorPgWal11
namespace Go.Proofs.YtcclbaphdblcfaaDoor
open Go.RowKit

theorem clone_rows (w : World) (v : Value) (xs : List Value) (G : Nat → Prop) (hr : Reads w v xs G) (h1 : ∀ u ∈ xs, u.oneCell' = true) (hsz : xs.length * 25 ≤ 140737488355328) :
    Calls Tryd.prog 39 #[v] w (RetRow w 47 xs (v = .slice none 0 0)) := by
  obtain ⟨a, cap, rfl, hn⟩ := hr.shape
  have heq := fun w a n c => Lib.run_eql_slice_nil (P := Tryd.prog) w 34 47 a n c 0 0 Tryd.underlying34
  cases a with
  | none =>
    have hv := hn.1 rfl
    simp at hv
    obtain rfl := List.eq_nil_of_length_eq_zero (by simpa using hv.1)
    obtain rfl := hv.2
    clear hn hv
    go_enter Tryd.func39, Tryd.ntmps39
    go_wp2
    go_ret
    exact ⟨none, 0, rfl, Own.nil _ _ _, Kept.refl _ _, by simp⟩
  | some ad =>
    have HS := Lib.hid h1
    clear h1 hn
    go_enter Tryd.func39, Tryd.ntmps39
    go_wp2_with (at_builtin; refine wpList_append_pg rfl _ _ 34 rfl tRows (.slice (some ⟨w.heap.size, 0, none⟩) 0 0) _ [] xs (From w.heap.size) G rfl rfl (Own.empty_new w _) (hr.alloc _) HS.out (by simpa using hsz) ?_; intro b' cap' w1 ho hk hn)
    go_ret
    refine ⟨b', cap', rfl, ?_, ?_, ?_⟩
    · have := ho.mono (G := From w.heap.size) (fun k _ hk => by simp [Value.ownBlock, From] at *; omega)
      simpa using this
    · refine ((Kept.alloc Nob w _).from (n := w.heap.size) (Nat.le_refl _) (hk.mono ?_))
      intro k _ hk
      simp [Value.ownBlock, From] at *
      omega
    · simpa using hn

theorem fault_none (w : World) (op : ByteArray) (id : Int) :
    Calls Tryd.prog 29 #[.string op, .int .i64 id, .nilIface] w fun e w' => e = .returned .nilIface ∧ w = w' := by
  go_enter Tryd.func29, Tryd.ntmps29
  go_wp2
  go_ret
  exact ⟨rfl, rfl⟩

theorem append1_any (w : World) (a : Option Addr) (n c : Nat) (hn : n ≤ 1000000) :
    Calls Tryd.prog 35 #[.slice a n c] w fun e w' => e = .returned (.bool (decide (1200 < n))) ∧ w = w' := by
  by_cases h : 1200 < n
  all_goals
    go_enter Tryd.func35, Tryd.ntmps35
    go_wp2
    go_ret
    exact ⟨by simp [h]; omega, rfl⟩
/-- how many records ahead of one that is too long; -1: none is -/
def longAt : List (List Value) → Nat → Int
  | [], _ => -1
  | r :: l, k => if 1200 < r.length then (k : Int) else longAt l (k + 1)
theorem longAt_drop (rs : List (List Value)) (k j : Nat) (h : k < rs.length) : longAt (rs.drop k) j = if 1200 < rs[k].length then (j : Int) else longAt (rs.drop (k + 1)) (j + 1) := by
  rw [List.drop_eq_getElem_cons h]; rfl
theorem longAt_none : ∀ (rs : List (List Value)) (k : Nat), (∀ r ∈ rs, r.length ≤ 1200) → longAt rs k = -1 := by
  intro rs
  induction rs with
  | nil => intro k _; rfl
  | cons r l ih =>
    intro k h
    have := h r (by simp)
    rw [longAt, if_neg (by omega), ih _ fun q hq => h q (by simp [hq])]
theorem longAt_some : ∀ (rs : List (List Value)) (k : Nat) (r : List Value), r ∈ rs → 1200 < r.length → 0 ≤ longAt rs k := by
  intro rs
  induction rs with
  | nil => intro k r h; cases h
  | cons q l ih =>
    intro k r h hr
    rw [longAt]
    split
    · omega
    · rename_i hq
      rcases List.mem_cons.1 h with rfl | h
      · exact absurd hr hq
      · exact ih _ r h hr

set_option maxHeartbeats 1000000 in
theorem index_recs (w : World) (v : Value) (vs : List Value) (rs : List (List Value)) (F : Nat → Prop) (hv : Reads w v vs F) (hr : ReadRows w vs rs F) (hl : rs.length ≤ 1000000) (hm : ∀ r ∈ rs, r.length ≤ 1000000) :
    Calls Tryd.prog 49 #[v, .func (.func 35) #[] #[]] w fun e w' => e = .returned (.int .i64 (longAt rs 0)) ∧ w = w' := by
  obtain ⟨a, c, rfl, -⟩ := hv.shape
  rw [hr.1]
  have HV := Lib.hid hv
  have HR := Lib.hid hr
  have HM := Lib.hid hm
  have HL := Lib.hid hr.1
  clear hv hr hm
  go_enter Tryd.func49, Tryd.ntmps49
  go_wp2
  go_loop [8] (fun i => ∃ k : Nat, k ≤ rs.length ∧ i = .int .i64 k ∧ Hid (longAt rs 0 = longAt (rs.drop k) k)) (fun i => rs.length - (intOf i).toNat)
  case atStart => exact ⟨0, Nat.zero_le _, rfl, rfl⟩
  case round =>
    obtain ⟨k, hk, rfl, hidx⟩ := hrel
    by_cases hlt : k < rs.length
    · have HV2 := HV.out
      rw [HL.out] at HV2
      obtain ⟨b, o, x, rfl, hx, hc, -⟩ := HV.out.cell (i := k) (by rw [HL.out]; exact hlt)
      obtain ⟨xa, xc, rfl, -⟩ := (HR.out.2 k x rs[k] hx (List.getElem?_eq_getElem hlt)).shape
      have hm := HM.out _ (List.getElem_mem hlt)
      have HD := Lib.hid (longAt_drop rs k k hlt)
      clear hx HV2
      generalize rs[k].length = n at *
      have HA := Lib.hid (append1_any w xa n xc hm)
      by_cases hbig : 1200 < n
      · have hb : decide (1200 < n) = true := by simpa using hbig
        go_wp2_with (go_at_call 35; refine HA.out.mono ?_; rintro e w' ⟨rfl, rfl⟩)
        go_ret
        exact ⟨ret_int (by rw [hidx.out, HD.out, if_pos hbig]), rfl⟩
      · have hb : decide (1200 < n) = false := by simpa using hbig
        have HN : Hid (longAt rs 0 = longAt (rs.drop (k + 1)) (k + 1)) := by
          show _ = _
          rw [hidx.out, HD.out, if_neg hbig]
        go_wp2_with (go_at_call 35; refine HA.out.mono ?_; rintro e w' ⟨rfl, rfl⟩)
        go_round
        case rel => exact ⟨k + 1, by omega, by go_num, HN⟩
        case measure => simp [intOf]; omega
    · go_wp2
      go_ret
      exact ⟨ret_int (by rw [hidx.out, List.drop_of_length_le (by omega)]; rfl), rfl⟩
theorem contains_recs (w : World) (v : Value) (vs : List Value) (rs : List (List Value)) (F : Nat → Prop) (hv : Reads w v vs F) (hr : ReadRows w vs rs F) (hl : rs.length ≤ 1000000) (hm : ∀ r ∈ rs, r.length ≤ 1000000) :
    Calls Tryd.prog 34 #[v, .func (.func 35) #[] #[]] w fun e w' => e = .returned (.bool (decide (0 ≤ longAt rs 0))) ∧ w = w' := by
  have H := Lib.hid (index_recs w v vs rs F hv hr hl hm)
  clear hv hr hl hm
  generalize longAt rs 0 = q at *
  go_enter Tryd.func34, Tryd.ntmps34
  go_wp2_with (go_at_call 49; refine H.out.mono ?_; rintro e w' ⟨rfl, rfl⟩)
  go_ret
  exact ⟨rfl, rfl⟩
end Go.Proofs.YtcclbaphdblcfaaDoor
