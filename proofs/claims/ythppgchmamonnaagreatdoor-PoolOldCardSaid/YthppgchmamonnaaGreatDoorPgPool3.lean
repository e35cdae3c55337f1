/- The pool: is a byte no nought; New, ID of a page. -/
import Derived.Test.YthppgchmamonnaaGreatDoorPgPool2
import Derived.Test.YthppgchmamonnaaGreatDoorPgReads
namespace Go.Proofs.YthppgchmamonnaaGreatDoor
open Go.RowKit

theorem pread1_any (w : World) (n : Int) :
    Calls Tryz.prog 66 #[.int .u8 n] w fun e w' => e = .returned (.bool (n != 0)) ∧ w = w' := by
  go_enter Tryz.func66, Tryz.ntmps66
  go_wp2
  go_ret
  exact ⟨rfl, rfl⟩
/-- how many bytes ahead of one that is no nought; -1: none is -/
def nzAt : List Int → Nat → Int
  | [], _ => -1
  | x :: l, k => if x = 0 then nzAt l (k + 1) else (k : Int)
theorem nzAt_drop (xs : List Int) (k j : Nat) (h : k < xs.length) : nzAt (xs.drop k) j = if xs[k] = 0 then nzAt (xs.drop (k + 1)) (j + 1) else (j : Int) := by
  rw [List.drop_eq_getElem_cons h]; rfl
theorem nzAt_none : ∀ (xs : List Int) (k : Nat), (∀ x ∈ xs, x = 0) → nzAt xs k = -1 := by
  intro xs
  induction xs with
  | nil => intro k _; rfl
  | cons r l ih =>
    intro k h
    rw [nzAt, if_pos (h r (by simp)), ih _ fun q hq => h q (by simp [hq])]
theorem nzAt_some : ∀ (xs : List Int) (k : Nat) (r : Int), r ∈ xs → r ≠ 0 → 0 ≤ nzAt xs k := by
  intro xs
  induction xs with
  | nil => intro k r h; cases h
  | cons q l ih =>
    intro k r h hr
    rw [nzAt]
    split
    · rename_i hq
      rcases List.mem_cons.1 h with rfl | h
      · exact absurd hq hr
      · exact ih _ r h hr
    · omega
set_option maxHeartbeats 1000000 in
set_option maxRecDepth 100000 in
theorem pindex_nz (w : World) (v : Value) (xs : List Int) (F : Nat → Prop) (hr : Reads w v (xs.map (Value.int .u8)) F) (hl : xs.length ≤ 1000000) :
    Calls Tryz.prog 99 #[v, .func (.func 66) #[] #[]] w fun e w' => e = .returned (.int .i64 (nzAt xs 0)) ∧ w = w' := by
  obtain ⟨a, c, rfl, -⟩ := hr.shape
  rw [List.length_map] at hr ⊢
  have HR := Lib.hid hr
  clear hr
  go_enter Tryz.func99, Tryz.ntmps99
  go_wp2
  go_loop [8] (fun i => ∃ k : Nat, k ≤ xs.length ∧ i = .int .i64 k ∧ Hid (nzAt xs 0 = nzAt (xs.drop k) k)) (fun i => xs.length - (intOf i).toNat)
  case atStart => exact ⟨0, Nat.zero_le _, rfl, rfl⟩
  case round =>
    obtain ⟨k, hk, rfl, hidx⟩ := hrel
    by_cases hlt : k < xs.length
    · obtain ⟨b, o, x, rfl, hx, hc, -⟩ := HR.out.cell (i := k) (by simpa using hlt)
      obtain rfl : x = .int .u8 xs[k] := by
        rw [List.getElem?_map, List.getElem?_eq_getElem hlt] at hx
        exact (Option.some.inj hx).symm
      have HD := Lib.hid (nzAt_drop xs k k hlt)
      clear hx
      generalize xs[k] = n at *
      have HA := Lib.hid (pread1_any w n)
      by_cases hz : n = 0
      · have hb : (n != 0) = false := by simpa using hz
        have HN : Hid (nzAt xs 0 = nzAt (xs.drop (k + 1)) (k + 1)) := by
          show _ = _
          rw [hidx.out, HD.out, if_pos hz]
        clear hb HA HD
        subst hz
        go_wp2_with (go_at_call 66; refine (pread1_any w 0).mono ?_; rintro e w' ⟨rfl, rfl⟩)
        go_round
        case rel => exact ⟨k + 1, by omega, by go_num, HN⟩
        case measure => simp [intOf]; omega
      · have hb : (n != 0) = true := by simpa using hz
        have HE : Hid (nzAt xs 0 = (k : Int)) := Lib.hid (by rw [hidx.out, HD.out, if_neg hz])
        go_wp2_with (go_at_call 66; refine HA.out.mono ?_; rintro e w' ⟨rfl, rfl⟩)
        go_ret
        exact ⟨ret_int HE.out.symm, rfl⟩
    · have HE : Hid (nzAt (xs.drop k) k = -1) := Lib.hid (by rw [List.drop_of_length_le (by omega), nzAt])
      go_wp2
      go_ret
      exact ⟨ret_int (hidx.out.trans HE.out).symm, rfl⟩
theorem pcontains_nz (w : World) (v : Value) (xs : List Int) (F : Nat → Prop) (hr : Reads w v (xs.map (Value.int .u8)) F) (hl : xs.length ≤ 1000000) :
    Calls Tryz.prog 65 #[v, .func (.func 66) #[] #[]] w fun e w' => e = .returned (.bool (decide (0 ≤ nzAt xs 0))) ∧ w = w' := by
  have H := Lib.hid (pindex_nz w v xs F hr hl)
  clear hr hl
  generalize nzAt xs 0 = q at *
  go_enter Tryz.func65, Tryz.ntmps65
  go_wp2_with (go_at_call 99; refine H.out.mono ?_; rintro e w' ⟨rfl, rfl⟩)
  go_ret
  exact ⟨rfl, rfl⟩

/-- block pg is a page of that kind and number; lv: its slots -/
def PageHead (w : World) (pg : Nat) (kind id : Int) (lv : Value) : Prop := w.heap[pg]? = some (.cells #[.bool true, .int .i64 kind, .int .i64 id, lv] 94 (0, 0))
theorem page_new (w : World) (kind id : Int) (h1 : 0 ≤ kind) (h2 : kind ≤ 255) (h3 : 0 ≤ id) (h4 : id ≤ 4294967295) :
    Calls Tryz.prog 67 #[.int .i64 kind, .int .i64 id] w fun e w' => e = .returned (.tuple #[.pointer (some ⟨w.heap.size, 0, none⟩), .nilIface]) ∧ PageHead w' w.heap.size kind id (.slice none 0 0) ∧ Kept Nob w w' := by
  go_enter Tryz.func67, Tryz.ntmps67
  go_wp2
  go_ret2
  exact ⟨rfl, heap_alloc_new w _, Kept.alloc _ _ _⟩
theorem page_gone (w : World) (pg : Nat) (kind id : Int) (lv : Value) (h : PageHead w pg kind id lv) :
    Calls Tryz.prog 44 #[.pointer (some ⟨pg, 0, none⟩)] w fun e w' => e = .returned (.bool false) ∧ w = w' := by
  have c0 : w.cell? ⟨pg, 0, none⟩ = some (.bool true) := cell_at h 0 _ rfl
  clear h
  go_enter Tryz.func44, Tryz.ntmps44
  go_wp2
  go_ret
  exact ⟨rfl, rfl⟩
theorem page_id (w : World) (pg : Nat) (kind id : Int) (lv : Value) (h : PageHead w pg kind id lv) :
    Calls Tryz.prog 30 #[.pointer (some ⟨pg, 0, none⟩)] w fun e w' => e = .returned (.int .i64 id) ∧ w = w' := by
  have HG := Lib.hid (page_gone w pg kind id lv h)
  have c2 : w.cell? ⟨pg, 2, none⟩ = some (.int .i64 id) := cell_at h 2 _ rfl
  clear h
  go_enter Tryz.func30, Tryz.ntmps30
  go_wp2_with (go_at_call 44; refine HG.out.mono ?_; rintro e w' ⟨rfl, rfl⟩)
  go_ret
  exact ⟨rfl, rfl⟩
end Go.Proofs.YthppgchmamonnaaGreatDoor
