/- The document's own pool: Pin of a number that is none; of a page that is held. -/
import Derived.Test.YthppgchmamonnaaGreatDoorPq15
import Derived.Deep.DeepCutAuto
namespace Go.Proofs.YthppgchmamonnaaGreatDoor
open Go.RowKit
set_option maxRecDepth 100000 in
theorem doc_pin_range (w : World) (m md : Nat) (Q : DPl) (S : Nat → Prop) (h : DPoolAt w m md Q S) (k : Int) (hk : k < 0 ∨ (Q.pages : Int) ≤ k) :
    Calls Tryz.prog 49 #[.pointer (some ⟨m, 0, none⟩), .int .i64 k] w fun e w' => e = .returned (.tuple #[.pointer none, .int .i64 2]) ∧ w = w' := by
  obtain ⟨hv, T, hb, -, -⟩ := h.head
  have c1 : w.cell? ⟨m, 1, none⟩ = some (.int .i64 Q.pages) := cell_at hb 1 _ rfl
  clear hb h
  go_enter Tryz.func49, Tryz.ntmps49
  by_cases h0 : k < 0
  · clear hk
    go_wp2_with fail
    go_ret2
    exact ⟨rfl, rfl⟩
  · have h1 : (Q.pages : Int) ≤ k := by omega
    clear hk
    go_wp2_with fail
    go_ret2
    exact ⟨rfl, rfl⟩
def DPl.hit (Q : DPl) (x : DHd) : DPl := DPl.set { Q with hits := Q.hits + 1, clock := Q.clock + 1 } { x with pins := x.pins + 1, last := Q.clock + 1 }
set_option maxRecDepth 100000 in
set_option maxHeartbeats 2000000 in
theorem doc_pin_hit (w : World) (m md : Nat) (Q : DPl) (S : Nat → Prop) (h : DPoolAt w m md Q S) (hlen : Q.all.length ≤ 1000) (k : Nat) (x : DHd) (hx : Q.find k = some x) (hk : k < Q.pages) (hc : Q.clock ≤ 1000000000000) (hh : Q.hits ≤ 1000000000000) (hp : x.pins ≤ 1000000000000) :
    Calls Tryz.prog 49 #[.pointer (some ⟨m, 0, none⟩), .int .i64 k] w fun e w' => e = .returned (.tuple #[.pointer (some ⟨x.pg, 0, none⟩), .int .i64 0]) ∧ DPoolAt w' m md (Q.hit x) S ∧ Kept (fun y => y = m ∨ S y) w w' := by
  obtain ⟨hv, T, hb, -, -⟩ := h.head
  have hxm := (DPl.find_mem hx).1
  have hxS := (h.held _ hxm).2
  have hgm : x.g ≠ m := fun e => h.noM (by rw [← e]; exact hxS)
  have c1 : w.cell? ⟨m, 1, none⟩ = some (.int .i64 Q.pages) := cell_at hb 1 _ rfl
  have c5 : w.cell? ⟨m, 5, none⟩ = some (.int .i64 Q.clock) := cell_at hb 5 _ rfl
  have f5 := frozen_at hb 5
  have k1 := kept1 w m 5 (.int .i64 ((Q.clock : Int) + 1))
  have P1 : DPoolAt (w.setCell ⟨m, 5, none⟩ (.int .i64 ((Q.clock : Int) + 1))) m md { Q with clock := Q.clock + 1 } S := h.turn k1 rfl fun hv hb => (heap_set w m 5 _ _ (.int .i64 ((Q.clock : Int) + 1)) hb).trans rfl
  have HP1 := Lib.hid P1
  have HK1 := Lib.hid k1
  have HX := Lib.hid hxm
  have HS := Lib.hid hxS
  have HF : Hid (Calls Tryz.prog 86 #[.pointer (some ⟨m, 0, none⟩), .int .i64 k] (w.setCell ⟨m, 5, none⟩ (.int .i64 ((Q.clock : Int) + 1))) fun e w' => e = .returned (.pointer (some ⟨x.g, 0, none⟩)) ∧ (w.setCell ⟨m, 5, none⟩ (.int .i64 ((Q.clock : Int) + 1))) = w') := Lib.hid (by
    have := doc_find _ m md _ S P1 hlen k
    rw [show DPl.find { Q with clock := Q.clock + 1 } k = some x from hx] at this
    exact this)
  clear h hb P1 k1 hxm hxS hx
  go_enter Tryz.func49, Tryz.ntmps49
  go_upto_region 5 with (go_at_call 86; (with_reducible refine HF.out.mono ?_); rintro e w' ⟨rfl, rfl⟩)
  clear c1 c5 f5 HF
  generalize w.setCell ⟨m, 5, none⟩ (.int .i64 ((Q.clock : Int) + 1)) = w1 at *
  obtain ⟨hv1, T1, hb1, -, -⟩ := HP1.out.head
  have c6 : w1.cell? ⟨m, 6, none⟩ = some (.int .i64 Q.hits) := cell_at hb1 6 _ rfl
  have f6 := frozen_at hb1 6
  have k2 := kept1 w1 m 6 (.int .i64 ((Q.hits : Int) + 1))
  have P2 : DPoolAt (w1.setCell ⟨m, 6, none⟩ (.int .i64 ((Q.hits : Int) + 1))) m md { Q with hits := Q.hits + 1, clock := Q.clock + 1 } S := HP1.out.turn k2 rfl fun hv hb => (heap_set w1 m 6 _ _ (.int .i64 ((Q.hits : Int) + 1)) hb).trans rfl
  have HP2 := Lib.hid P2
  have HK2 := Lib.hid (HK1.out.trans' k2)
  clear hb1 k2 P2
  go_upto_region 7 with fail
  clear c6 f6
  generalize w1.setCell ⟨m, 6, none⟩ (.int .i64 ((Q.hits : Int) + 1)) = w2 at *
  obtain ⟨hv2, T2, hb2, -, -⟩ := HP2.out.head
  have hxb := (HP2.out.held x HX.out).1
  have d1 : w2.cell? ⟨x.g, 1, none⟩ = some (.pointer (some ⟨x.pg, 0, none⟩)) := cell_at hxb 1 _ rfl
  have d2 : w2.cell? ⟨x.g, 2, none⟩ = some (.int .i64 x.pins) := cell_at hxb 2 _ rfl
  have e2 := frozen_at hxb 2
  have hxb3 := heap_set w2 x.g 2 _ _ (.int .i64 ((x.pins : Int) + 1)) hxb
  have k3 := kept1 w2 x.g 2 (.int .i64 ((x.pins : Int) + 1))
  have hb3 := (k3.block m HP2.out.lt (fun e => hgm (show m = x.g from e).symm)).trans hb2
  go_upto_region 8 with fail
  generalize w2.setCell ⟨x.g, 2, none⟩ (.int .i64 ((x.pins : Int) + 1)) = w3 at *
  have c53 : w3.cell? ⟨m, 5, none⟩ = some (.int .i64 ((Q.clock + 1 : Nat) : Int)) := cell_at hb3 5 _ rfl
  have e53 : w3.cell? ⟨x.g, 5, none⟩ = some (.int .i64 x.last) := cell_at hxb3 5 _ rfl
  have f53 := frozen_at hxb3 5
  have d13 : w3.cell? ⟨x.g, 1, none⟩ = some (.pointer (some ⟨x.pg, 0, none⟩)) := cell_at hxb3 1 _ rfl
  have d14 : ∀ v, (w3.setCell ⟨x.g, 5, none⟩ v).cell? ⟨x.g, 1, none⟩ = some (.pointer (some ⟨x.pg, 0, none⟩)) := fun v => cell_at (heap_set w3 x.g 5 _ _ v hxb3) 1 _ rfl
  have HX3 := Lib.hid hxb3
  have HK3 := Lib.hid k3
  clear hxb hxb3 hb2 hb3 k3 d1 d2 e2
  go_wp2_with fail
  go_ret2
  have k4 : Kept (Just x.g) w2 (w3.setCell ⟨x.g, 5, none⟩ (.int .i64 ((Q.clock : Int) + 1))) := HK3.out.trans' (kept1 w3 x.g 5 _)
  refine ⟨rfl, HP2.out.inner HX.out { x with pins := x.pins + 1, last := Q.clock + 1 } rfl rfl k4 ?_, (HK2.out.mono fun y _ e => .inl e).trans k4 fun y _ e => .inr (by rw [show y = x.g from e]; exact HS.out)⟩
  rw [heap_set w3 x.g 5 _ _ (.int .i64 ((Q.clock : Int) + 1)) HX3.out]
  rfl
end Go.Proofs.YthppgchmamonnaaGreatDoor
