/- The pool: New, may. -/
import Derived.Test.YthppgchmamonnaaGreatDoorPgPool1
namespace Go.Proofs.YthppgchmamonnaaGreatDoor
open Go.RowKit

def opPool : ByteArray := ⟨#[112, 111, 111, 108]⟩
/-- a pool that holds nothing -/
def Pl.none (pages room : Nat) : Pl := ⟨pages, room, 0, 0, 0, 0, 0, []⟩
/-- behind a New that is refused -/
def RetNoPool (w : World) (en : Ending) (w' : World) : Prop :=
  ∃ g, en = .returned (.tuple #[.pointer none, .iface 81 (.pointer (some ⟨g, 0, none⟩))]) ∧ FaultAt w' (.iface 81 (.pointer (some ⟨g, 0, none⟩))) opPool 0 1 (From w.heap.size) ∧ Kept Nob w w'
theorem pool_new_nil (w : World) (pages room : Int) :
    Calls Tryz.prog 11 #[.pointer none, .int .i64 pages, .int .i64 room] w (RetNoPool w) := by
  have HC := fun w => Lib.hid (fault_new w opPool 0 1)
  unfold opPool at HC
  go_enter Tryz.func11, Tryz.ntmps11
  go_wp2_with (go_at_call 31; refine (HC _).out.mono ?_; rintro e w2 ⟨g1, rfl, ho1, hk1⟩)
  go_ret2
  exact ⟨g1, rfl, ho1, hk1⟩

set_option maxHeartbeats 1000000 in
theorem pool_new (w : World) (bd : Nat) (d : Dsk) (F : Nat → Prop) (hD : DiskAt w bd d F) (pages room : Nat) (h1 : 1 ≤ pages) (h2 : pages ≤ d.good.length / 8) (h3 : 1 ≤ room) (h4 : room ≤ 100) :
    Calls Tryz.prog 11 #[.pointer (some ⟨bd, 0, none⟩), .int .i64 pages, .int .i64 room] w fun e w' =>
      e = .returned (.tuple #[.pointer (some ⟨w.heap.size + 1, 0, none⟩), .nilIface]) ∧ PoolAt w' (w.heap.size + 1) bd w.heap.size (Pl.none pages room) (fun _ => False) ∧ Kept Nob w w' := by
  have HLen := Lib.hid (disk_len w bd d F hD)
  have hm := hD.wf.most
  clear hD
  have hmm := @run_makeMap Tryz.prog
  have t1 : decide ((d.good.length : Int) / 8 < (pages : Int)) = false := by simp; omega
  go_enter Tryz.func11, Tryz.ntmps11
  go_wp2_with (go_at_call 33; refine HLen.out.mono ?_; rintro e w' ⟨rfl, rfl⟩)
  go_ret2
  have k1 := Kept.alloc Nob w (.map #[] 0)
  have k2 := Kept.alloc Nob (w.alloc (.map #[] 0)) (.cells #[.pointer (some ⟨bd, 0, none⟩), .int .i64 pages, .int .i64 room, .int .i64 0, .int .i64 0, .map (some w.heap.size), .int .i64 0, .int .i64 0, .int .i64 0] 76)
  have hb := heap_alloc_new (w.alloc (.map #[] 0)) (.cells #[.pointer (some ⟨bd, 0, none⟩), .int .i64 pages, .int .i64 room, .int .i64 0, .int .i64 0, .map (some w.heap.size), .int .i64 0, .int .i64 0, .int .i64 0] 76)
  rw [show (w.alloc (.map #[] 0)).heap.size = w.heap.size + 1 from by simp] at hb
  exact ⟨rfl, ⟨hb, (MapAt.made w).kept k2 (fun f => f), (fun p hp => by cases hp), List.Pairwise.nil, fun f => f, fun f => f, by omega, fun _ f => f.elim⟩, k1.trans' k2⟩

/-- may a page go? -/
def Pl.may (P : Pl) (h : Hd) : Bool := decide (h.pins = 0) && (!h.dirty || decide (h.lsn ≤ P.mark))
theorem pool_may (w : World) (b bd mb : Nat) (P : Pl) (S : Nat → Prop) (h : PoolAt w b bd mb P S) (k : Int) (x : Hd) (hx : (k, x) ∈ P.all) :
    Calls Tryz.prog 63 #[.pointer (some ⟨b, 0, none⟩), .pointer (some ⟨x.g, 0, none⟩)] w fun e w' => e = .returned (.bool (P.may x)) ∧ ∃ n, w' = w.drewN n := by
  have hb := (h.held _ hx).2
  have c3 : w.cell? ⟨b, 3, none⟩ = some (.int .i64 P.mark) := cell_at h.head 3 _ rfl
  have d1 : w.cell? ⟨x.g, 1, none⟩ = some (.int .i64 x.pins) := cell_at hb 1 _ rfl
  have d2 : w.cell? ⟨x.g, 2, none⟩ = some (.bool x.dirty) := cell_at hb 2 _ rfl
  have d3 : w.cell? ⟨x.g, 3, none⟩ = some (.int .i64 x.lsn) := cell_at hb 3 _ rfl
  unfold Pl.may
  clear h hx hb
  obtain ⟨g, pg, pins, dirty, lsn, used⟩ := x
  simp only at *
  by_cases hp : pins = 0
  · subst hp
    cases dirty
    · go_enter Tryz.func63, Tryz.ntmps63
      go_wp2
      go_ret
      exact ⟨rfl, 0, rfl⟩
    · go_enter Tryz.func63, Tryz.ntmps63
      go_wp2_with fail
      go_quiet (fail)
      go_wp2_with fail
      go_ret
      exact ⟨by simp, nq, rfl⟩
  · have hp' : 0 < pins := by omega
    go_enter Tryz.func63, Tryz.ntmps63
    go_wp2
    go_ret
    exact ⟨by simp [hp], 0, rfl⟩
end Go.Proofs.YthppgchmamonnaaGreatDoor
