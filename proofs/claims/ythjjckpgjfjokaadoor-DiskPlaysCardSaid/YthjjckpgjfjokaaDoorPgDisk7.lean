/- Disk: Ops, Off, Cut, and the nil disk. -/
import Derived.Test.YthjjckpgjfjokaaDoorPgDisk6
namespace Go.Proofs.YthjjckpgjfjokaaDoor
open Go.RowKit

theorem disk_ops (w : World) (b : Nat) (d : Dsk) (F : Nat → Prop) (h : DiskAt w b d F) :
    Calls Tryd.prog 15 #[.pointer (some ⟨b, 0, none⟩)] w fun e w' => e = .returned (.int .i64 d.ops) ∧ w = w' := by
  have H := Lib.hid (disk_gone w b d F h)
  obtain ⟨gv, nv, ov, hb, hF, hg, hn, ho, ha, hw, hu⟩ := h
  have c3 := cell_at hb 3 _ rfl
  clear hb hg hn ho ha hw hu
  go_enter Tryd.func15, Tryd.ntmps15
  go_wp2_with (go_at_call 30; refine H.out.mono ?_; rintro e w' ⟨rfl, rfl⟩)
  go_ret
  exact ⟨rfl, rfl⟩
theorem disk_ops_nil (w : World) :
    Calls Tryd.prog 15 #[.pointer none] w fun e w' => e = .returned (.int .i64 0) ∧ w = w' := by
  go_enter Tryd.func15, Tryd.ntmps15
  go_wp2_with (go_at_call 30; refine (disk_gone_nil w).mono ?_; rintro e w' ⟨rfl, rfl⟩)
  go_ret
  exact ⟨rfl, rfl⟩
theorem disk_off (w : World) (b : Nat) (d : Dsk) (F : Nat → Prop) (h : DiskAt w b d F) :
    Calls Tryd.prog 11 #[.pointer (some ⟨b, 0, none⟩)] w fun e w' => e = .returned (.bool d.off) ∧ w = w' := by
  have H := Lib.hid (disk_gone w b d F h)
  obtain ⟨gv, nv, ov, hb, hF, hg, hn, ho, ha, hw, hu⟩ := h
  have c6 := cell_at hb 6 _ rfl
  clear hb hg hn ho ha hw hu
  go_enter Tryd.func11, Tryd.ntmps11
  go_wp2_with (go_at_call 30; refine H.out.mono ?_; rintro e w' ⟨rfl, rfl⟩)
  go_ret
  exact ⟨rfl, rfl⟩
theorem disk_off_nil (w : World) :
    Calls Tryd.prog 11 #[.pointer none] w fun e w' => e = .returned (.bool true) ∧ w = w' := by
  go_enter Tryd.func11, Tryd.ntmps11
  go_wp2_with (go_at_call 30; refine (disk_gone_nil w).mono ?_; rintro e w' ⟨rfl, rfl⟩)
  go_ret
  exact ⟨rfl, rfl⟩
theorem disk_crash_nil (w : World) (a : Option Addr) (n c : Nat) (torn : Int) :
    Calls Tryd.prog 24 #[.pointer none, .slice a n c, .int .i64 torn] w fun e w' => e = .returned (.pointer none) ∧ w = w' := by
  go_enter Tryd.func24, Tryd.ntmps24
  go_wp2_with (go_at_call 30; refine (disk_gone_nil w).mono ?_; rintro e w' ⟨rfl, rfl⟩)
  go_ret
  exact ⟨rfl, rfl⟩
theorem disk_copy_nil (w : World) :
    Calls Tryd.prog 26 #[.pointer none] w fun e w' => e = .returned (.pointer none) ∧ w = w' := by
  go_enter Tryd.func26, Tryd.ntmps26
  go_wp2_with (go_at_call 30; refine (disk_gone_nil w).mono ?_; rintro e w' ⟨rfl, rfl⟩)
  go_ret
  exact ⟨rfl, rfl⟩
theorem disk_sync_nil (w : World) :
    Calls Tryd.prog 20 #[.pointer none] w (RetFault w opSync 0 9) := by
  have HC := fun w => Lib.hid (fault_new w opSync 0 9)
  unfold opSync at HC
  go_enter Tryd.func20, Tryd.ntmps20
  go_wp2_with (first | (go_at_call 30; refine (disk_gone_nil w).mono ?_; rintro e w' ⟨rfl, rfl⟩) | (go_at_call 28; refine (HC _).out.mono ?_; rintro e w1 ⟨g1, rfl, ho1, hk1⟩))
  go_ret
  exact ⟨g1, rfl, ho1, hk1⟩
theorem disk_read_nil (w : World) (k : Int) :
    Calls Tryd.prog 12 #[.pointer none, .int .i64 k] w (RetNoRead w opRead k 2) := by
  have HC := fun w => Lib.hid (fault_new w opRead k 2)
  unfold opRead at HC
  by_cases hneg : k < 0
  · go_enter Tryd.func12, Tryd.ntmps12
    go_wp2_with (first | (go_at_call 31; refine (disk_len_nil w).mono ?_; rintro e w' ⟨rfl, rfl⟩) | (go_at_call 28; refine (HC _).out.mono ?_; rintro e w1 ⟨g1, rfl, ho1, hk1⟩))
    go_ret2
    exact ⟨g1, rfl, ho1, hk1⟩
  · have hge : 0 ≤ k := by omega
    go_enter Tryd.func12, Tryd.ntmps12
    go_wp2_with (first | (go_at_call 31; refine (disk_len_nil w).mono ?_; rintro e w' ⟨rfl, rfl⟩) | (go_at_call 28; refine (HC _).out.mono ?_; rintro e w1 ⟨g1, rfl, ho1, hk1⟩))
    go_ret2
    exact ⟨g1, rfl, ho1, hk1⟩
theorem disk_write_nil (w : World) (k : Int) (a : Option Addr) (n c : Nat) :
    Calls Tryd.prog 8 #[.pointer none, .int .i64 k, .slice a n c] w (RetFault w opWrite k 2) := by
  have HC := fun w => Lib.hid (fault_new w opWrite k 2)
  unfold opWrite at HC
  by_cases hneg : k < 0
  · go_enter Tryd.func8, Tryd.ntmps8
    go_wp2_with (first | (go_at_call 31; refine (disk_len_nil w).mono ?_; rintro e w' ⟨rfl, rfl⟩) | (go_at_call 28; refine (HC _).out.mono ?_; rintro e w1 ⟨g1, rfl, ho1, hk1⟩))
    go_ret
    exact ⟨g1, rfl, ho1, hk1⟩
  · have hge : 0 ≤ k := by omega
    go_enter Tryd.func8, Tryd.ntmps8
    go_wp2_with (first | (go_at_call 31; refine (disk_len_nil w).mono ?_; rintro e w' ⟨rfl, rfl⟩) | (go_at_call 28; refine (HC _).out.mono ?_; rintro e w1 ⟨g1, rfl, ho1, hk1⟩))
    go_ret
    exact ⟨g1, rfl, ho1, hk1⟩
end Go.Proofs.YthjjckpgjfjokaaDoor
