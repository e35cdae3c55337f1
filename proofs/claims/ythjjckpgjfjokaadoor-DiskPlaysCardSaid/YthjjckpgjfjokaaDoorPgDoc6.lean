/- The document's own disk: Write. -/
import Derived.Test.YthjjckpgjfjokaaDoorPgDoc5
namespace Go.Proofs.YthjjckpgjfjokaaDoor
open Go.RowKit

theorem doc_write_range (w : World) (m : Nat) (d : Dsk) (R : Nat → Prop) (h : DocAt w m d R) (k : Int) (hk : k < 0 ∨ d.good.length ≤ k) (a : Option Addr) (n c : Nat) :
    Calls Tryd.prog 19 #[.pointer (some ⟨m, 0, none⟩), .int .i64 k, .slice a n c] w fun e w' => e = .returned (.int .i64 2) ∧ w = w' := by
  obtain ⟨gv, av, nv, gs, ns, left, hb, hR, h1, -, h3, h4, h5, -, -, -, hw, -⟩ := h
  have c0 := cell_at hb 0 _ rfl
  obtain ⟨ga, gc, rfl, -⟩ := h1.shape
  have hgl := h4.1
  rw [← hgl] at hk
  clear hb hR h1 h3 h4 h5 hw hgl
  generalize gs.length = n at *
  by_cases hn : k < 0
  · clear hk
    go_enter Tryd.func19, Tryd.ntmps19
    go_wp2
    go_ret
    exact ⟨rfl, rfl⟩
  · have hge : decide ((n : Int) ≤ k) = true := by simp; omega
    clear hk
    go_enter Tryd.func19, Tryd.ntmps19
    go_wp2
    go_ret
    exact ⟨rfl, rfl⟩

theorem doc_write_arg (w : World) (m : Nat) (d : Dsk) (R : Nat → Prop) (h : DocAt w m d R) (k : Nat) (hk : k < d.good.length) (a : Option Addr) (n c : Nat) (hn : n ≠ 64) :
    Calls Tryd.prog 19 #[.pointer (some ⟨m, 0, none⟩), .int .i64 k, .slice a n c] w fun e w' => e = .returned (.int .i64 1) ∧ w = w' := by
  obtain ⟨gv, av, nv, gs, ns, left, hb, hR, h1, -, h3, h4, h5, -, -, -, hw, -⟩ := h
  have c0 := cell_at hb 0 _ rfl
  obtain ⟨ga, gc, rfl, -⟩ := h1.shape
  have hgl := h4.1
  rw [← hgl] at hk
  have hlt : decide (gs.length ≤ k) = false := by simp; omega
  have hne : ((n : Int) == 64) = false := beq_eq_false_iff_ne.2 (by omega)
  have hne2 : ((n : Int) != 64) = true := by simp [bne, hne]
  clear hb hR h1 h3 h4 h5 hw hgl hn hk
  generalize gs.length = n at *
  go_enter Tryd.func19, Tryd.ntmps19
  go_wp2
  go_ret
  exact ⟨rfl, rfl⟩

theorem doc_write_off (w : World) (m : Nat) (d : Dsk) (R : Nat → Prop) (h : DocAt w m d R) (k : Nat) (hk : k < d.good.length) (a : Option Addr) (c : Nat) (hops : d.ops < 9223372036854775807) (hgo : d.goes = false) :
    Calls Tryd.prog 19 #[.pointer (some ⟨m, 0, none⟩), .int .i64 k, .slice a 64 c] w fun e w' => e = .returned (.int .i64 9) ∧ DocAt w' m d.begun R ∧ Kept (Just m) w w' := by
  have HO0 := doc_op w m d R h hops
  rw [hgo] at HO0
  have HO := Lib.hid HO0
  obtain ⟨gv, av, nv, gs, ns, left, hb, hR, h1, -, h3, h4, h5, -, -, -, hw, -⟩ := h
  have c0 := cell_at hb 0 _ rfl
  obtain ⟨ga, gc, rfl, -⟩ := h1.shape
  have hgl := h4.1
  rw [← hgl] at hk
  have hlt : decide (gs.length ≤ k) = false := by simp; omega
  clear hb hR h1 h3 h4 h5 hw hgl hk hgo HO0
  generalize gs.length = n at *
  go_enter Tryd.func19, Tryd.ntmps19
  go_wp2_with (go_at_call 38; refine HO.out.mono ?_; rintro e w1 ⟨rfl, hD1, hk1⟩)
  go_ret
  exact ⟨rfl, hD1, hk1⟩
end Go.Proofs.YthjjckpgjfjokaaDoor
