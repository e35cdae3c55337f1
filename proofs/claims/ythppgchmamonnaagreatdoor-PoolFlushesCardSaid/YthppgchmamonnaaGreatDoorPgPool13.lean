/- Law: PoolNothing. -/
import Derived.Test.YthppgchmamonnaaGreatDoorPgPool12
namespace Go.Proofs.YthppgchmamonnaaGreatDoor
open Go.RowKit

theorem pool_dirty_nil (w : World) :
    Calls Tryz.prog 16 #[.pointer none] w fun e w' => e = .returned (.slice none 0 0) ∧ w = w' := by
  go_enter Tryz.func16, Tryz.ntmps16
  go_wp2_with (go_at_call 15; refine (pool_held_nil _).mono ?_; rintro e w' ⟨rfl, rfl⟩)
  go_loop [2, 8] (fun o i => o = .slice none 0 0 ∧ i = .int .i64 0) (fun _ _ => 0)
  case atStart => exact ⟨rfl, rfl⟩
  case round =>
    obtain ⟨rfl, rfl⟩ := hrel
    go_wp2
    go_ret
    exact ⟨rfl, rfl⟩
theorem pool_flush_nil (w : World) :
    Calls Tryz.prog 21 #[.pointer none] w fun e w' => e = .returned .nilIface ∧ w = w' := by
  go_enter Tryz.func21, Tryz.ntmps21
  go_wp2_with (go_at_call 16; refine (pool_dirty_nil _).mono ?_; rintro e w' ⟨rfl, rfl⟩)
  go_loop [3, 15] (fun o i => o = .slice none 0 0 ∧ i = .int .i64 0) (fun _ _ => 0)
  case atStart => exact ⟨rfl, rfl⟩
  case round =>
    obtain ⟨rfl, rfl⟩ := hrel
    go_wp2
    go_ret
    exact ⟨rfl, rfl⟩
set_option maxRecDepth 100000 in
set_option maxHeartbeats 2000000 in
theorem nothing12 (w : World) (page : Int) (hT : Typed w) : Calls Tryz.prog 5 #[.int .i64 page] w (RetTrue w) := by
  have HT := Lib.hid hT
  clear hT
  go_enter Tryz.func5, Tryz.ntmps5
  go_wp2_with fail
  refine (pool_pin_nil w page).mono ?_
  rintro e w1 ⟨g1, rfl, hf1, hk1⟩
  have HF1 := Lib.hid hf1
  have HK1 := Lib.hid hk1
  clear hf1 hk1
  go_wp2_with fail
  refine (pool_new_nil w1 1 1).mono ?_
  rintro e w2 ⟨g2, rfl, hf2, hk2⟩
  have HF2 := Lib.hid hf2
  have HF1' := Lib.hid (HF1.out.kept hk2 (fun _ _ f => f))
  have HK2 := Lib.hid (HK1.out.then hk2)
  clear hf2 hk2
  go_wp2_with fail
  refine (pool_stats_nil w2).mono ?_
  rintro e w3 ⟨rfl, rfl⟩
  have HC1 : Hid (Calls Tryz.prog 20 #[.iface 81 (.pointer (some ⟨g1, 0, none⟩))] w2 fun e w' => e = .returned (.int .i64 2) ∧ w2 = w') := by
    obtain ⟨g, hv, -, -, hb⟩ := HF1'.out
    simp only [Value.iface.injEq, Value.pointer.injEq, Option.some.injEq, Addr.mk.injEq, and_true, true_and] at hv
    subst hv
    exact code_fault w2 _ 2 (cell_at hb 2 _ rfl) (by omega) (by omega)
  have hIs := is_this w2 _ opPool 0 1 _ HF2.out (by omega) (by omega) (HT.out.kept HK2.out (fun f => f))
  unfold opPool at hIs
  have HIs := Lib.hid hIs
  clear hIs
  go_wp2_with (first
    | (go_at_call 20; (with_reducible refine HC1.out.mono ?_); rintro e w' ⟨rfl, rfl⟩)
    | (go_at_call 13; (with_reducible refine HIs.out.mono ?_); rintro e w4 ⟨rfl, hk4⟩; have HK4 := Lib.hid hk4; clear hk4)
    | (go_at_call 14; (with_reducible refine (pool_unpin_nil _ page 1 true).mono ?_); rintro e w5 ⟨g5, rfl, hf5, hk5⟩; have HF5 := Lib.hid hf5; have HK5 := Lib.hid hk5; clear hf5 hk5; have HC5 : Hid (Calls Tryz.prog 20 #[.iface 81 (.pointer (some ⟨g5, 0, none⟩))] w5 fun e w' => e = .returned (.int .i64 14) ∧ w5 = w') := (by
        obtain ⟨g, hv, -, -, hb⟩ := HF5.out
        simp only [Value.iface.injEq, Value.pointer.injEq, Option.some.injEq, Addr.mk.injEq, and_true, true_and] at hv
        subst hv
        exact code_fault w5 _ 14 (cell_at hb 2 _ rfl) (by omega) (by omega)))
    | (go_at_call 20; (with_reducible refine HC5.out.mono ?_); rintro e w' ⟨rfl, rfl⟩)
    | (go_at_call 21; (with_reducible refine (pool_flush_nil _).mono ?_); rintro e w' ⟨rfl, rfl⟩)
    | (go_at_call 15; (with_reducible refine (pool_held_nil _).mono ?_); rintro e w' ⟨rfl, rfl⟩)
    | (go_at_call 16; (with_reducible refine (pool_dirty_nil _).mono ?_); rintro e w' ⟨rfl, rfl⟩)
    | (go_at_call 9; (with_reducible refine (awake12 _ (HT.out.kept ((HK2.out.then HK4.out).then HK5.out) (fun f => f))).mono ?_); rintro e w6 ⟨rfl, hk6⟩))
  go_ret
  exact ⟨rfl, ((HK2.out.then HK4.out).then HK5.out).then hk6⟩
end Go.Proofs.YthppgchmamonnaaGreatDoor
