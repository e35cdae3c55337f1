/- Law: PoolPins. -/
import Derived.Test.YthppgchmamonnaaGreatDoorPgPool14
namespace Go.Proofs.YthppgchmamonnaaGreatDoor
open Go.RowKit

theorem PinsRel.start {w0 w1 w : World} {bd b mb n room : Nat} {F : Nat → Prop} (hD : DiskAt w1 bd (Dsk.fresh n) F) (hF : ∀ x, F x → w0.heap.size ≤ x) (hk0 : Kept Nob w0 w1) (hp : PoolAt w b bd mb (Pl.none 20 room) (fun _ => False)) (hk : Kept Nob w1 w) (hb : w1.heap.size ≤ b) (hm : w1.heap.size ≤ mb) (hn : 160 ≤ n) (hr : room ≤ 100) :
    PinsRel w0 w bd b mb (Dsk.fresh n) F room [] 0 := by
  have hs := hk0.size
  refine ⟨Pl.none 20 room, _, ⟨hp, hD.kept hk (fun _ _ f => f), fun i hi => by simp [Dsk.fresh] at hi ⊢; simp [hi], by show 8 * 20 ≤ _; simp [Dsk.fresh]; omega, fun p hp => (by cases hp), fun p hp => (by cases hp), fun p hp => (by cases hp), Nat.zero_le _, hr, fun f => by have := hD.under _ f; omega, fun f => by have := hD.under _ f; omega, fun _ _ f => f, ?_, hk0.then hk⟩, rfl, rfl, rfl, Nat.le_refl _, Nat.le_refl _, Nat.le_refl _, fun q hq => (by cases hq)⟩
  rintro x (e | e | e | e)
  · exact hF x e
  · omega
  · omega
  · exact e.elim
/-- the pages that are held behind j more pins -/
def pinsRow (c j : Nat) : List (Int × Nat) := ((3 : Nat), c) :: (List.range j).map fun i => (((4 + i : Nat) : Int), 1)
theorem pinsRow_length (c j : Nat) : (pinsRow c j).length = j + 1 := by simp [pinsRow]
theorem pinsRow_succ (c j : Nat) : pinsRow c (j + 1) = pinsRow c j ++ [(((4 + j : Nat) : Int), 1)] := by simp [pinsRow, List.range_succ]
theorem pinsRow_rest {c j : Nat} {q : Int × Nat} (h : q ∈ (List.range j).map fun i => (((4 + i : Nat) : Int), 1)) : q.2 = 1 ∧ 4 ≤ q.1 ∧ q.1 < 4 + j := by
  obtain ⟨i, hi, rfl⟩ := List.mem_map.1 h
  have := List.mem_range.1 hi
  exact ⟨rfl, by show (4 : Int) ≤ ((4 + i : Nat) : Int); omega, by show ((4 + i : Nat) : Int) < _; omega⟩
theorem pinsRow_mem {c j : Nat} {q : Int × Nat} (h : q ∈ pinsRow c j) : q.1 < 4 + (j : Int) ∧ (0 < c → 0 < q.2) := by
  rcases List.mem_cons.1 h with rfl | h
  · exact ⟨by show ((3 : Nat) : Int) < _; omega, fun h => h⟩
  · have := pinsRow_rest (c := c) h
    exact ⟨this.2.2, fun _ => by omega⟩
theorem pinsRow_map (c c' j : Nat) : ((pinsRow c j).map fun q => if q.1 = ((3 : Nat) : Int) then (((3 : Nat) : Int), c') else q) = pinsRow c' j := by
  rw [pinsRow, List.map_cons, if_pos rfl, pinsRow]
  congr 1
  conv => rhs; rw [← List.map_id ((List.range j).map _)]
  refine List.map_congr_left fun q hq => ?_
  have := pinsRow_rest (c := c) hq
  rw [if_neg (by omega)]; rfl

set_option maxRecDepth 100000 in
set_option maxHeartbeats 4000000 in
theorem pins_main (w : World) (room n more : Nat) (hr1 : 1 ≤ room) (hr2 : room ≤ 8) (hn1 : 1 ≤ n) (hn2 : n ≤ 20) (hm2 : more ≤ 20) (hT : Typed w) :
    Calls Tryz.prog 3 #[.int .i64 room, .int .i64 n, .int .i64 more] w (RetTrue w) := by
  have HT := Lib.hid hT
  clear hT
  go_enter Tryz.func3, Tryz.ntmps3
  go_wp2_with fail
  refine (disk_new w 160 (by omega) (by omega)).mono ?_
  rintro e w1 ⟨bd, rfl, hD1, hk1⟩
  have HN := Lib.hid (show Calls Tryz.prog 11 #[.pointer (some ⟨bd, 0, none⟩), .int .i64 20, .int .i64 room] w1 _ from pool_new w1 bd _ _ hD1 20 room (by omega) (by simp [Dsk.fresh]) hr1 (by omega))
  have HD1 := Lib.hid hD1
  have HK1 := Lib.hid hk1
  clear hD1 hk1
  go_wp2_with fail
  refine HN.out.mono ?_
  rintro e w2 ⟨rfl, hp2, hk2⟩
  have HR0 : Hid (PinsRel w w2 bd (w1.heap.size + 1) w1.heap.size (Dsk.fresh 160) (fun k => w.heap.size ≤ k ∧ k < w1.heap.size) room [] 0) :=
    Lib.hid (PinsRel.start HD1.out (fun x h => h.1) HK1.out hp2 hk2 (by omega) (by omega) (by omega) (by omega))
  clear hp2 hk2 HN
  generalize (fun k => w.heap.size ≤ k ∧ k < w1.heap.size) = F at *
  generalize w1.heap.size + 1 = b at *
  generalize w1.heap.size = mb at *
  generalize Dsk.fresh 160 = d at *
  clear HD1 HK1
  go_wp2_with fail
  go_loopw [11] (fun i wr => ∃ k : Nat, k ≤ n ∧ i = .int .i64 k ∧ PinsRel w wr bd b mb d F room (if k = 0 then [] else pinsRow k 0) k) (fun i _ => n - (intOf i).toNat)
  case atStart => exact ⟨0, Nat.zero_le _, rfl, HR0.out⟩
  case round =>
    clear HR0
    obtain ⟨k, hk, rfl, hrl⟩ := hrel
    have HR := Lib.hid hrl
    clear hrl
    by_cases hlt : k < n
    · have HP : Hid (Calls Tryz.prog 12 #[.pointer (some ⟨b, 0, none⟩), .int .i64 3] wr (RetPin fun w' => PinsRel w w' bd b mb d F room (if k + 1 = 0 then [] else pinsRow (k + 1) 0) (k + 1))) := by
        refine Lib.hid ?_
        have h := HR.out
        by_cases h0 : k = 0
        · subst h0
          rw [if_pos rfl] at h
          rw [if_neg (by omega)]
          exact h.add (by omega) (by simp; omega) 3 (by omega) (fun q hq => by cases hq)
        · rw [if_neg h0] at h
          rw [if_neg (by omega)]
          have := h.hit (by omega) 3 k (by simp [pinsRow])
          rw [pinsRow_map] at this
          exact this
      go_wp2_with fail
      refine HP.out.mono ?_
      rintro e w3 ⟨pg, rfl, hr3⟩
      have HR3 := Lib.hid hr3
      clear hr3 HP
      go_wp2_with fail
      go_roundw
      case rel => exact ⟨k + 1, by omega, by go_num, HR3.out⟩
      case measure => simp [intOf]; omega
    · have hkn : k = n := by omega
      subst hkn
      have HR1 : Hid (PinsRel w wr bd b mb d F room (pinsRow k 0) (k + 0)) := Lib.hid (by have := HR.out; rwa [if_neg (by omega)] at this)
      clear HR
      go_wp2_with fail
      go_loopw [14] (fun i wr => ∃ j : Nat, j ≤ room ∧ i = .int .i64 j ∧ PinsRel w wr bd b mb d F room (pinsRow k (min j (room - 1))) (k + j)) (fun i _ => room - (intOf i).toNat)
      case atStart => exact ⟨0, Nat.zero_le _, rfl, by rw [Nat.zero_min]; exact HR1.out⟩
      case round =>
        clear HR1
        obtain ⟨j, hj, rfl, hrl⟩ := hrel
        have HR := Lib.hid hrl
        clear hrl
        by_cases hjl : j < room
        · by_cases hjr : j = room - 1
          · have HP : Hid (Calls Tryz.prog 12 #[.pointer (some ⟨b, 0, none⟩), .int .i64 (4 + j)] wr (RetNoPage wr ((4 + j : Nat) : Int) 8 Nob)) := by
              refine Lib.hid ?_
              have h := HR.out.full (by omega) (by rw [pinsRow_length]; omega) (fun q hq => (pinsRow_mem hq).2 (by omega)) (4 + j) (by omega) (fun q hq => by have := (pinsRow_mem hq).1; omega)
              rw [show ((4 + j : Nat) : Int) = 4 + (j : Int) from by omega] at h ⊢
              exact h
            have tj : ((j : Int) == (room : Int) - 1) = true := by simp; omega
            have HJ := Lib.hid hjr
            clear hjr
            go_wp2_with fail
            refine HP.out.mono ?_
            rintro e w3 ⟨g, rfl, hf, hk3⟩
            have HR3 := Lib.hid (HR.out.nob hk3)
            have hIs := is_this w3 _ opPool _ 8 _ hf (by omega) (by omega) (HT.out.kept HR3.out.kept (fun f => f))
            rw [show ((4 + j : Nat) : Int) = 4 + (j : Int) from by omega] at hIs
            unfold opPool at hIs
            have HIs := Lib.hid hIs
            clear hf hk3 hIs HP HR
            go_wp2_with ((go_at_call 13; (with_reducible refine HIs.out.mono ?_); rintro e w4 ⟨rfl, hk4⟩; have HR4 := Lib.hid (HR3.out.nob hk4); clear hk4))
            have HRN : Hid (PinsRel w w4 bd b mb d F room (pinsRow k (min (j + 1) (room - 1))) (k + (j + 1))) := by
              refine Lib.hid ?_
              obtain ⟨P, S, C, h1, h2, h3, h4, h5, h6, h7⟩ := HR4.out
              rw [show min (j + 1) (room - 1) = min j (room - 1) from by have := HJ.out; omega]
              exact ⟨P, S, C, h1, h2, h3, by omega, by omega, by omega, fun q hq => by have := h7 q hq; omega⟩
            go_roundw
            case rel => exact ⟨j + 1, by omega, by go_num, HRN.out⟩
            case measure => simp [intOf]; omega
          · have HP : Hid (Calls Tryz.prog 12 #[.pointer (some ⟨b, 0, none⟩), .int .i64 (4 + j)] wr (RetPin fun w' => PinsRel w w' bd b mb d F room (pinsRow k (min (j + 1) (room - 1))) (k + (j + 1)))) := by
              refine Lib.hid ?_
              have h := HR.out
              rw [show min j (room - 1) = j from by omega] at h
              rw [show min (j + 1) (room - 1) = j + 1 from by omega, pinsRow_succ]
              have h := h.add (by omega) (by rw [pinsRow_length]; omega) (4 + j) (by omega) (fun q hq => by have := (pinsRow_mem hq).1; omega)
              rw [show ((4 + j : Nat) : Int) = 4 + (j : Int) from by omega] at h ⊢
              exact h
            have tj : ((j : Int) == (room : Int) - 1) = false := by simp; omega
            clear hjr
            go_wp2_with fail
            refine HP.out.mono ?_
            rintro e w3 ⟨pg, rfl, hr3⟩
            have HR3 := Lib.hid hr3
            clear hr3 HP HR
            go_wp2_with ((go_at_call 13; (with_reducible refine (is_none _ _ _).mono ?_); rintro e w4 ⟨rfl, rfl⟩))
            go_roundw
            case rel => exact ⟨j + 1, by omega, by go_num, HR3.out⟩
            case measure => simp [intOf]; omega
        · have hje : j = room := by omega
          subst hje
          have HR1 : Hid (PinsRel w wr bd b mb d F j (pinsRow (k - 0) (j - 1)) (k + j)) := Lib.hid (by have := HR.out; rwa [show min j (j - 1) = j - 1 from by omega] at this)
          clear HR
          go_wp2_with fail
          go_loopw [18] (fun i wr => ∃ q : Nat, q ≤ k + more ∧ i = .int .i64 q ∧ PinsRel w wr bd b mb d F j (pinsRow (k - q) (j - 1)) (k + j)) (fun i _ => k + more - (intOf i).toNat)
          case atStart => exact ⟨0, Nat.zero_le _, rfl, HR1.out⟩
          case round =>
            clear HR1
            obtain ⟨q, hq, rfl, hrl⟩ := hrel
            have HR := Lib.hid hrl
            clear hrl
            by_cases hql : q < k + more
            · by_cases hqk : q < k
              · have HU : Hid (Calls Tryz.prog 14 #[.pointer (some ⟨b, 0, none⟩), .int .i64 3, .bool false, .int .i64 0] wr fun e w' => e = .returned .nilIface ∧ PinsRel w w' bd b mb d F j (pinsRow (k - (q + 1)) (j - 1)) (k + j)) := by
                  refine Lib.hid ?_
                  have h := HR.out.unpin (by omega) 3 (k - q) 0 (by simp [pinsRow]) (by omega)
                  rw [pinsRow_map] at h
                  exact h
                go_wp2_with fail
                refine HU.out.mono ?_
                rintro e w3 ⟨rfl, hr3⟩
                have HR3 := Lib.hid hr3
                clear hr3 HU HR
                go_wp2_with ((go_at_call 13; (with_reducible refine (is_none _ _ _).mono ?_); rintro e w4 ⟨rfl, rfl⟩))
                go_roundw
                case rel => exact ⟨q + 1, by omega, by go_num, HR3.out⟩
                case measure => simp [intOf]; omega
              · have HU : Hid (Calls Tryz.prog 14 #[.pointer (some ⟨b, 0, none⟩), .int .i64 3, .bool false, .int .i64 0] wr (RetFault wr opPool 3 14)) :=
                  Lib.hid (HR.out.free 3 (by omega) 0 (by simp [pinsRow]; omega))
                go_wp2_with fail
                refine HU.out.mono ?_
                rintro e w3 ⟨g, rfl, hf, hk3⟩
                have HR3 := Lib.hid (HR.out.nob hk3)
                have hIs := is_this w3 _ opPool _ 14 _ hf (by omega) (by omega) (HT.out.kept HR3.out.kept (fun f => f))
                unfold opPool at hIs
                have HIs := Lib.hid hIs
                clear hf hk3 hIs HU HR
                go_wp2_with ((go_at_call 13; (with_reducible refine HIs.out.mono ?_); rintro e w4 ⟨rfl, hk4⟩; have HR4 := Lib.hid (HR3.out.nob hk4); clear hk4))
                have HRN : Hid (PinsRel w w4 bd b mb d F j (pinsRow (k - (q + 1)) (j - 1)) (k + j)) := Lib.hid (by rw [show k - (q + 1) = k - q from by omega]; exact HR4.out)
                go_roundw
                case rel => exact ⟨q + 1, by omega, by go_num, HRN.out⟩
                case measure => simp [intOf]; omega
            · have HP : Hid (Calls Tryz.prog 12 #[.pointer (some ⟨b, 0, none⟩), .int .i64 19] wr (RetPin fun w' => ∃ l, l.length = j ∧ PinsRel w w' bd b mb d F j l (k + j + 1))) := by
                refine Lib.hid ?_
                have h := HR.out
                rw [show k - q = 0 from by omega, pinsRow] at h
                refine (h.turn (by omega) (by simp; omega) (fun q hq => by have := pinsRow_rest (c := 0) hq; omega) 19 (by omega) (by omega) (fun q hq => by have := pinsRow_rest (c := 0) hq; omega)).mono ?_
                rintro e w' ⟨pg, rfl, h⟩
                exact ⟨pg, rfl, _, by simp; omega, h⟩
              go_wp2_with fail
              refine HP.out.mono ?_
              rintro e w3 ⟨pg, rfl, l, hl, hr3⟩
              have HHe := hr3.held
              rw [hl] at HHe
              have HHe := Lib.hid HHe
              have HR3 := Lib.hid hr3
              clear hl hr3 HP HR
              go_wp2_with (first
                | (go_at_call 15; (with_reducible refine HHe.out.mono ?_); rintro e w4 ⟨a4, c4, rfl, hk4⟩; have HR4 := Lib.hid (HR3.out.nob hk4); clear hk4)
                | (go_at_call 16; (with_reducible refine HR4.out.dirty.mono ?_); rintro e w5 ⟨a5, c5, rfl, hk5⟩; have HR5 := Lib.hid (HR4.out.nob hk5); clear hk5)
                | (go_at_call 9; (with_reducible refine (awake12 _ (HT.out.kept HR5.out.kept (fun f => f))).mono ?_); rintro e w6 ⟨rfl, hk6⟩))
              go_ret
              exact ⟨rfl, HR5.out.kept.then hk6⟩

theorem pins_any (w : World) (room n more : Int) (hT : Typed w) :
    Calls Tryz.prog 3 #[.int .i64 room, .int .i64 n, .int .i64 more] w (RetTrue w) := by
  by_cases g0 : room < 1
  · go_enter Tryz.func3, Tryz.ntmps3
    go_wp2_with (go_at_call 9; refine (awake12 _ hT).mono ?_; rintro e w' ⟨rfl, hk⟩)
    go_ret
    exact ⟨rfl, hk⟩
  by_cases g1 : 8 < room
  · go_enter Tryz.func3, Tryz.ntmps3
    go_wp2_with (go_at_call 9; refine (awake12 _ hT).mono ?_; rintro e w' ⟨rfl, hk⟩)
    go_ret
    exact ⟨rfl, hk⟩
  by_cases g2 : n < 1
  · go_enter Tryz.func3, Tryz.ntmps3
    go_wp2_with (go_at_call 9; refine (awake12 _ hT).mono ?_; rintro e w' ⟨rfl, hk⟩)
    go_ret
    exact ⟨rfl, hk⟩
  by_cases g3 : 20 < n
  · go_enter Tryz.func3, Tryz.ntmps3
    go_wp2_with (go_at_call 9; refine (awake12 _ hT).mono ?_; rintro e w' ⟨rfl, hk⟩)
    go_ret
    exact ⟨rfl, hk⟩
  by_cases g4 : more < 0
  · go_enter Tryz.func3, Tryz.ntmps3
    go_wp2_with (go_at_call 9; refine (awake12 _ hT).mono ?_; rintro e w' ⟨rfl, hk⟩)
    go_ret
    exact ⟨rfl, hk⟩
  by_cases g5 : 20 < more
  · go_enter Tryz.func3, Tryz.ntmps3
    go_wp2_with (go_at_call 9; refine (awake12 _ hT).mono ?_; rintro e w' ⟨rfl, hk⟩)
    go_ret
    exact ⟨rfl, hk⟩
  obtain ⟨room, rfl⟩ : ∃ a : Nat, room = a := ⟨room.toNat, by omega⟩
  obtain ⟨n, rfl⟩ : ∃ a : Nat, n = a := ⟨n.toNat, by omega⟩
  obtain ⟨more, rfl⟩ : ∃ a : Nat, more = a := ⟨more.toNat, by omega⟩
  exact pins_main w room n more (by omega) (by omega) (by omega) (by omega) (by omega) hT
end Go.Proofs.YthppgchmamonnaaGreatDoor
