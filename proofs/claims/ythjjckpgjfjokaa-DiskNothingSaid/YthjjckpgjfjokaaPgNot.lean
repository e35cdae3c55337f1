/- DiskNothing: the walk. -/
import Derived.Test.YthjjckpgjfjokaaPgDisk9
import Derived.Test.YthjjckpgjfjokaaPgAwake10
import Derived.Test.YthjjckpgjfjokaaPgErr
namespace Go.Proofs.Ythjjckpgjfjokaa
open Go.RowKit

/-- Code of a fault that lies there -/
theorem code_of_fault {w : World} {g : Nat} {op : ByteArray} {id c : Int} {F : Nat → Prop} (h : FaultAt w (.iface 56 (.pointer (some ⟨g, 0, none⟩))) op id c F) (h1 : 1 ≤ c) (h2 : c ≤ 15) :
    Calls Try.prog 19 #[.iface 56 (.pointer (some ⟨g, 0, none⟩))] w fun e w' => e = .returned (.int .i64 c) ∧ w = w' := by
  obtain ⟨g', hv, _, _, hb⟩ := h
  simp only [Value.iface.injEq, Value.pointer.injEq, Option.some.injEq, Addr.mk.injEq] at hv
  obtain ⟨_, rfl, _, _⟩ := hv
  exact code_fault w g c (cell_at hb 2 _ rfl) h1 h2

theorem fresh_row : (Dsk.fresh 3).now.getD 1 [] = Dsk.zeroSector := rfl

set_option maxRecDepth 100000 in
set_option maxHeartbeats 4000000 in
theorem nothing_any (w : World) (at_ : Int) :
    Calls Try.prog 6 #[.int .i64 at_] w (RetTrue w) := by
  go_enter Try.func6, Try.ntmps6
  go_wp2_with fail
  refine (disk_read_nil w at_).mono ?_
  rintro e w1 ⟨g1, rfl, hf1, hk1⟩
  have F1 := Lib.hid hf1
  have K1 := Lib.hid hk1
  clear hf1 hk1
  go_wp2_with fail
  refine (disk_new w1 3 (by omega) (by omega)).mono ?_
  rintro e w2 ⟨b, rfl, hD2, hk2⟩
  have D2 := Lib.hid hD2
  have K2 := Lib.hid hk2
  clear hD2 hk2
  go_wp2_with fail
  refine (disk_copy w2 b _ _ D2.out).mono ?_
  rintro e w3 ⟨bc, rfl, hD3, hk3⟩
  have DC := Lib.hid hD3
  have D3 := Lib.hid (D2.out.kept hk3 (fun _ _ f => f))
  have K3 := Lib.hid hk3
  clear hD3 hk3
  go_wp2_with fail
  refine (block_any w3 64 (by omega) 1).mono ?_
  rintro e w4 ⟨g4, rfl, ho4, hk4⟩
  have O4 := Lib.hid ho4
  have K4 := Lib.hid hk4
  clear ho4 hk4
  go_wp2_with fail
  refine (disk_write w4 bc (Dsk.fresh 3) _ (DC.out.kept K4.out (fun _ _ f => f)) 1 (by decide) _ (blockRow 64 1) _ O4.out.reads ⟨blockRow_length _ _, blockRow_bytes _ _⟩ (fun k h1 h2 => by simp [From] at h1; omega) (by decide) rfl).mono ?_
  rintro e w5 ⟨rfl, F5, hD5, hg5, hk5⟩
  have D5 := Lib.hid ((D3.out.kept K4.out (fun _ _ f => f)).kept hk5 (fun k h1 h2 => by omega))
  have K5 := Lib.hid hk5
  clear hD5 hg5 hk5
  go_wp2_with fail
  refine (disk_read w5 b _ _ D5.out 1 (by decide)).mono ?_
  rintro e w6 ⟨b6, c6, rfl, ho6, hk6⟩
  rw [fresh_row] at ho6
  have O6 := Lib.hid ho6
  have K6 := Lib.hid hk6
  have KA := Lib.hid (show Kept (fun k => w2.heap.size ≤ k ∧ k < w3.heap.size) w1 w6 from (((K2.out.then K3.out).then K4.out).nob.trans' (K5.out.mono fun k _ h => h)).then hk6)
  clear ho6 hk6
  go_wp2_with fail
  have hmk := make64
  have f16 : FaultAt w6 (.iface 56 (.pointer (some ⟨g1, 0, none⟩))) opRead at_ 2 (fun k => k < w1.heap.size) := (F1.out.mono (fun k h _ => h)).kept KA.out (fun k h1 h2 => by have := K2.out.size; omega)
  have F16 := Lib.hid f16
  clear f16
  refine (code_of_fault F16.out (by omega) (by omega)).mono ?_
  rintro e w6' ⟨rfl, rfl⟩
  go_wp2_with fail
  refine (block_any w6 64 (by omega) 1).mono ?_
  rintro e w7 ⟨g7, rfl, ho7, hk7⟩
  have K7 := Lib.hid hk7
  clear ho7 hk7
  go_wp2_with fail
  refine (disk_write_nil w7 at_ _ _ _).mono ?_
  rintro e w8 ⟨g8, rfl, hf8, hk8⟩
  have F8 := Lib.hid hf8
  have K8 := Lib.hid hk8
  clear hf8 hk8
  go_wp2_with fail
  refine (code_of_fault F8.out (by omega) (by omega)).mono ?_
  rintro e w8' ⟨rfl, rfl⟩
  go_wp2_with fail
  refine (disk_sync_nil w8).mono ?_
  rintro e w9 ⟨g9, rfl, hf9, hk9⟩
  have F9 := Lib.hid hf9
  have K9 := Lib.hid hk9
  clear hf9 hk9
  go_wp2_with fail
  refine (code_of_fault F9.out (by omega) (by omega)).mono ?_
  rintro e w9' ⟨rfl, rfl⟩
  go_wp2_with (first | (go_at_call 16; refine (disk_off_nil w9).mono ?_; rintro e w' ⟨rfl, rfl⟩) | (go_at_call 20; refine (disk_len_nil w9).mono ?_; rintro e w' ⟨rfl, rfl⟩) | (go_at_call 15; refine (disk_ops_nil w9).mono ?_; rintro e w' ⟨rfl, rfl⟩) | (go_at_call 12; refine (disk_crash_nil w9 _ _ _ _).mono ?_; rintro e w' ⟨rfl, rfl⟩) | (go_at_call 18; refine (disk_copy_nil w9).mono ?_; rintro e w' ⟨rfl, rfl⟩))
  have O9 := Lib.hid ((((O6.out.kept K7.out (fun _ _ f => f)).kept K8.out (fun _ _ f => f)).kept K9.out (fun _ _ f => f)).alloc (.cells zero64 5))
  go_outline
  refine (bytes_rows _ _ _ Dsk.zeroSector Dsk.zeroSector _ _ O9.out.reads (own_zero64 _).reads zeroSector_bytes zeroSector_bytes (by decide) (by decide)).mono ?_
  rintro e w10 ⟨r10, n10, rfl, hr10, rfl⟩
  obtain rfl : r10 = true := hr10.2 rfl
  clear hr10
  go_wp2_with fail
  refine (awake_true _).mono ?_
  rintro e w11 ⟨rfl, hk11⟩
  go_wp2_with fail
  go_ret
  refine ⟨rfl, ?_⟩
  have s2 := K2.out.size
  have q1 : Kept Nob w w6 := K1.out.from (n := w1.heap.size) K1.out.size (KA.out.mono fun k _ h => Nat.le_trans s2 h.1)
  exact (((((q1.then K7.out).then K8.out).then K9.out).then (Kept.alloc Nob _ _)).then (Kept.drewN Nob _ _)).then hk11
end Go.Proofs.Ythjjckpgjfjokaa
