/- Small words: cells of a block, errors that are faults, what a law ends in. -/
import Derived.Test.YthjiobmglebmdaaGreatDoorChecked
import Derived.Test.YthjiobmglebmdaaGreatDoorPgBase
namespace Go.Proofs.YthjiobmglebmdaaGreatDoor
open Go.RowKit

theorem cell_at {w : World} {b : Nat} {cs : Array Value} {e : TypeId} {fz : Nat × Nat} (hb : w.heap[b]? = some (.cells cs e fz)) (i : Nat) (v : Value) (hi : cs[i]? = some v) : w.cell? ⟨b, i, none⟩ = some v := by
  rw [cell_of_row w b i cs e fz hb, hi]
theorem frozen_at {w : World} {b : Nat} {cs : Array Value} {e : TypeId} (hb : w.heap[b]? = some (.cells cs e (0, 0))) (i : Nat) : w.frozen? ⟨b, i, none⟩ = false := frozen_of_row w b i cs e hb

theorem ret_bool {a b : Bool} (h : a = b) : Ending.returned (.bool a) = .returned (.bool b) := by rw [h]
theorem ret_int {k : IntKind} {a b : Int} (h : a = b) : Ending.returned (.int k a) = .returned (.int k b) := by rw [h]

/-- the value v is an error: a Fault with that op, id and number -/
def FaultAt (w : World) (v : Value) (op : ByteArray) (id : Int) (code : Int) (F : Nat → Prop) : Prop :=
  ∃ g, v = .iface 94 (.pointer (some ⟨g, 0, none⟩)) ∧ F g ∧ g < w.heap.size ∧ w.heap[g]? = some (.cells #[.string op, .int .i64 id, .iface 31 (.int .i64 code)] 98 (0, 0))
theorem FaultAt.kept {w w' : World} {v : Value} {op : ByteArray} {id code : Int} {F G : Nat → Prop} (h : FaultAt w v op id code F) (hk : Kept G w w') (hd : ∀ k, F k → ¬ G k) : FaultAt w' v op id code F := by
  obtain ⟨g, h1, h2, h3, h4⟩ := h
  exact ⟨g, h1, h2, Nat.lt_of_lt_of_le h3 hk.size, (hk.block g h3 (hd g h2)).trans h4⟩
theorem FaultAt.mono {w : World} {v : Value} {op : ByteArray} {id code : Int} {F G : Nat → Prop} (h : FaultAt w v op id code F) (hg : ∀ k, k < w.heap.size → F k → G k) : FaultAt w v op id code G := by
  obtain ⟨g, h1, h2, h3, h4⟩ := h
  exact ⟨g, h1, hg g h3 h2, h3, h4⟩
/-- behind a call that hands back an error -/
def RetFault (w : World) (op : ByteArray) (id code : Int) (en : Ending) (w' : World) : Prop :=
  ∃ g, en = .returned (.iface 94 (.pointer (some ⟨g, 0, none⟩))) ∧ FaultAt w' (.iface 94 (.pointer (some ⟨g, 0, none⟩))) op id code (From w.heap.size) ∧ Kept Nob w w'

theorem fault_new (w : World) (op : ByteArray) (id code : Int) :
    Calls Tryz.prog 68 #[.string op, .int .i64 id, .iface 31 (.int .i64 code)] w (RetFault w op id code) := by
  go_enter Tryz.func68, Tryz.ntmps68
  go_wp2
  go_ret
  exact ⟨w.heap.size, rfl, ⟨_, rfl, Nat.le_refl _, by simp, heap_alloc_new w _⟩, Kept.alloc _ _ _⟩

/-- behind a law: true, and nothing that was there has turned -/
def RetTrue (w : World) (en : Ending) (w' : World) : Prop := en = .returned (.bool true) ∧ Kept Nob w w'
end Go.Proofs.YthjiobmglebmdaaGreatDoor
