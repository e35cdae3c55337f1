/- The pool: Unpin, Log, Stats. -/
import Derived.Test.YthppgchmamonnaaGreatDoorPgPool8
namespace Go.Proofs.YthppgchmamonnaaGreatDoor
open Go.RowKit

theorem PoolAt.look' {w : World} {b bd mb : Nat} {P : Pl} {S : Nat → Prop} (h : PoolAt w b bd mb P S) (k : Int) (h0 : -9223372036854775808 ≤ k) (h1 : k ≤ 9223372036854775807) :
    (Instr.lookup 74 (.map (some mb)) (.int .i64 k) false).run Tryz.prog w = .ok (ptrOf (Proofs.YthppgchmamonnaaGreatDoor.find P.map k)) w :=
  h.map.look Tryz.underlying74 (by kernel_rfl) k (by simp only [Lit.wf, Bool.and_eq_true, decide_eq_true_eq]; exact ⟨by show -9223372036854775808 ≤ k; omega, by show k ≤ 9223372036854775807; omega⟩)
theorem pool_unpin_nil (w : World) (k n : Int) (y : Bool) :
    Calls Tryz.prog 14 #[.pointer none, .int .i64 k, .bool y, .int .i64 n] w (RetFault w opPool k 14) := by
  have HC := fun w => Lib.hid (fault_new w opPool k 14)
  unfold opPool at HC
  go_enter Tryz.func14, Tryz.ntmps14
  go_wp2_with (first
    | (go_at_call 34; refine (pool_gone_nil _).mono ?_; rintro e w' ⟨rfl, rfl⟩)
    | (go_at_call 31; refine (HC _).out.mono ?_; rintro e w2 ⟨g1, rfl, ho1, hk1⟩))
  go_ret
  exact ⟨g1, rfl, ho1, hk1⟩
theorem pool_unpin_no (w : World) (b bd mb : Nat) (P : Pl) (S : Nat → Prop) (h : PoolAt w b bd mb P S) (k : Int) (h0 : -9223372036854775808 ≤ k) (h1 : k ≤ 9223372036854775807) (n : Int) (y : Bool) (hno : find P.map k = none) :
    Calls Tryz.prog 14 #[.pointer (some ⟨b, 0, none⟩), .int .i64 k, .bool y, .int .i64 n] w (RetFault w opPool k 14) := by
  have HC := fun w => Lib.hid (fault_new w opPool k 14)
  unfold opPool at HC
  have HG := Lib.hid (pool_gone w b bd mb P S h)
  have c5 : w.cell? ⟨b, 5, none⟩ = some (.map (some mb)) := cell_at h.head 5 _ rfl
  have hlk := h.look' k h0 h1
  rw [hno] at hlk
  simp only [ptrOf] at hlk
  clear h hno
  go_enter Tryz.func14, Tryz.ntmps14
  go_wp2_with (first
    | (go_at_call 34; refine HG.out.mono ?_; rintro e w' ⟨rfl, rfl⟩)
    | (go_at_call 31; refine (HC _).out.mono ?_; rintro e w2 ⟨g1, rfl, ho1, hk1⟩))
  go_ret
  exact ⟨g1, rfl, ho1, hk1⟩
theorem pool_unpin_zero (w : World) (b bd mb : Nat) (P : Pl) (S : Nat → Prop) (h : PoolAt w b bd mb P S) (k : Int) (h0 : -9223372036854775808 ≤ k) (h1 : k ≤ 9223372036854775807) (n : Int) (y : Bool) (x : Hd) (hx : (k, x) ∈ P.all) (hp : x.pins = 0) :
    Calls Tryz.prog 14 #[.pointer (some ⟨b, 0, none⟩), .int .i64 k, .bool y, .int .i64 n] w (RetFault w opPool k 14) := by
  have HC := fun w => Lib.hid (fault_new w opPool k 14)
  unfold opPool at HC
  have HG := Lib.hid (pool_gone w b bd mb P S h)
  have c5 : w.cell? ⟨b, 5, none⟩ = some (.map (some mb)) := cell_at h.head 5 _ rfl
  have hlk := h.look' k h0 h1
  rw [h.find hx] at hlk
  have d1 : w.cell? ⟨x.g, 1, none⟩ = some (.int .i64 x.pins) := cell_at (h.held _ hx).2 1 _ rfl
  rw [hp] at d1
  simp only [ptrOf] at hlk
  clear h hx hp
  go_enter Tryz.func14, Tryz.ntmps14
  go_wp2_with (first
    | (go_at_call 34; refine HG.out.mono ?_; rintro e w' ⟨rfl, rfl⟩)
    | (go_at_call 31; refine (HC _).out.mono ?_; rintro e w2 ⟨g1, rfl, ho1, hk1⟩))
  go_ret
  exact ⟨g1, rfl, ho1, hk1⟩
/-- a page that is let go -/
def Hd.less (x : Hd) (y : Bool) (n : Int) : Hd := { x with pins := x.pins - 1, dirty := x.dirty || y, lsn := if y then max x.lsn n else x.lsn }
set_option maxRecDepth 100000 in
theorem pool_unpin (w : World) (b bd mb : Nat) (P : Pl) (S : Nat → Prop) (h : PoolAt w b bd mb P S) (k : Int) (h0 : -9223372036854775808 ≤ k) (h1 : k ≤ 9223372036854775807) (n : Int) (y : Bool) (x : Hd) (hx : (k, x) ∈ P.all) (hp : 1 ≤ x.pins) (hq : x.pins ≤ 1000000000000) :
    Calls Tryz.prog 14 #[.pointer (some ⟨b, 0, none⟩), .int .i64 k, .bool y, .int .i64 n] w fun e w' => e = .returned .nilIface ∧ PoolAt w' b bd mb (P.set k (x.less y n)) S ∧ Kept (PoolF b mb S) w w' := by
  have HG := Lib.hid (pool_gone w b bd mb P S h)
  have c5 : w.cell? ⟨b, 5, none⟩ = some (.map (some mb)) := cell_at h.head 5 _ rfl
  have hlk := h.look' k h0 h1
  rw [h.find hx] at hlk
  have hb := (h.held _ hx).2
  have d1 : w.cell? ⟨x.g, 1, none⟩ = some (.int .i64 x.pins) := cell_at hb 1 _ rfl
  have d3 : w.cell? ⟨x.g, 3, none⟩ = some (.int .i64 x.lsn) := cell_at hb 3 _ rfl
  have d2 : w.cell? ⟨x.g, 2, none⟩ = some (.bool x.dirty) := cell_at hb 2 _ rfl
  have e1 := frozen_at hb 1
  have e2 := frozen_at hb 2
  have e3 := frozen_at hb 3
  have hz : ¬ (x.pins : Int) = 0 := by omega
  simp only [ptrOf] at hlk
  have HP := Lib.hid h
  have HX := Lib.hid hx
  clear h hx hb
  cases y with
  | false =>
    go_enter Tryz.func14, Tryz.ntmps14
    go_wp2_with (go_at_call 34; refine HG.out.mono ?_; rintro e w' ⟨rfl, rfl⟩)
    go_ret
    have hSx := (HP.out.held _ HX.out).1
    have k1 := kept1 w x.g 1 (.int .i64 ((x.pins : Int) - 1))
    refine ⟨rfl, HP.out.inner HX.out (x.less false n) rfl k1 ?_, k1.mono fun y _ q => .inr (.inr (by rw [show y = x.g from q]; exact hSx))⟩
    have := heap_set w x.g 1 _ _ (.int .i64 ((x.pins : Int) - 1)) (HP.out.held _ HX.out).2
    rw [this]
    simp only [Hd.less, Bool.or_false, Bool.false_eq_true, if_false]
    rw [show ((x.pins - 1 : Nat) : Int) = (x.pins : Int) - 1 from by omega]
    rfl
  | true =>
    go_enter Tryz.func14, Tryz.ntmps14
    go_wp2_with (go_at_call 34; refine HG.out.mono ?_; rintro e w' ⟨rfl, rfl⟩)
    go_ret
    have hSx := (HP.out.held _ HX.out).1
    have k1 := kept3 w x.g 1 2 3 (.int .i64 ((x.pins : Int) - 1)) (.bool true) (.int .i64 (max x.lsn n))
    refine ⟨rfl, HP.out.inner HX.out (x.less true n) rfl k1 ?_, k1.mono fun y _ q => .inr (.inr (by rw [show y = x.g from q]; exact hSx))⟩
    have := heap3 w x.g 1 2 3 (.int .i64 ((x.pins : Int) - 1)) (.bool true) (.int .i64 (max x.lsn n)) _ _ (HP.out.held _ HX.out).2
    rw [this]
    simp only [Hd.less, Bool.or_true, if_true]
    rw [show ((x.pins - 1 : Nat) : Int) = (x.pins : Int) - 1 from by omega]
    rfl
theorem pool_log (w : World) (b bd mb : Nat) (P : Pl) (S : Nat → Prop) (h : PoolAt w b bd mb P S) (n : Int) :
    Calls Tryz.prog 22 #[.pointer (some ⟨b, 0, none⟩), .int .i64 n] w fun e w' => e = .returned (.tuple #[]) ∧ PoolAt w' b bd mb { P with mark := max P.mark n } S ∧ Kept (Just b) w w' := by
  have HG := Lib.hid (pool_gone w b bd mb P S h)
  have c3 : w.cell? ⟨b, 3, none⟩ = some (.int .i64 P.mark) := cell_at h.head 3 _ rfl
  have f3 := frozen_at h.head 3
  have HP := Lib.hid h
  clear h
  go_enter Tryz.func22, Tryz.ntmps22
  go_wp2_with (go_at_call 34; refine HG.out.mono ?_; rintro e w' ⟨rfl, rfl⟩)
  refine bodyPost_end (results_none rfl _ _ _) rfl ?_
  have k1 := kept1 w b 3 (.int .i64 (max P.mark n))
  exact ⟨rfl, HP.out.turn k1 rfl (heap_set w b 3 _ _ _ HP.out.head), k1⟩
theorem pool_stats (w : World) (b bd mb : Nat) (P : Pl) (S : Nat → Prop) (h : PoolAt w b bd mb P S) :
    Calls Tryz.prog 18 #[.pointer (some ⟨b, 0, none⟩)] w fun e w' => e = .returned (.tuple #[.int .i64 P.hits, .int .i64 P.reads, .int .i64 P.wrote]) ∧ ∃ n, w' = w.drewN n := by
  have HG := Lib.hid (pool_gone w b bd mb P S h)
  have c6 : w.cell? ⟨b, 6, none⟩ = some (.int .i64 P.hits) := cell_at h.head 6 _ rfl
  have c7 : w.cell? ⟨b, 7, none⟩ = some (.int .i64 P.reads) := cell_at h.head 7 _ rfl
  have c8 : w.cell? ⟨b, 8, none⟩ = some (.int .i64 P.wrote) := cell_at h.head 8 _ rfl
  clear h
  go_enter Tryz.func18, Tryz.ntmps18
  go_wp2_with (go_at_call 34; refine HG.out.mono ?_; rintro e w' ⟨rfl, rfl⟩)
  go_quiet (fail)
  go_wp2_with fail
  go_ret3
  exact ⟨rfl, nq, rfl⟩
end Go.Proofs.YthppgchmamonnaaGreatDoor
