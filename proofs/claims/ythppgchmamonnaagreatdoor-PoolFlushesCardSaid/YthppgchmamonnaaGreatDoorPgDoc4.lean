/- The document's own disk: NewDisk. -/
import Derived.Test.YthppgchmamonnaaGreatDoorPgDoc3
namespace Go.Proofs.YthppgchmamonnaaGreatDoor
open Go.RowKit

/-- behind the document's NewDisk that is done -/
def RetDocNew (w : World) (n : Nat) (en : Ending) (w' : World) : Prop :=
  ∃ m R, en = .returned (.tuple #[.pointer (some ⟨m, 0, none⟩), .int .i64 0]) ∧ DocAt w' m (Dsk.fresh n) R ∧ (∀ k, R k → w.heap.size ≤ k) ∧ w.heap.size ≤ m ∧ Kept Nob w w'

theorem doc_new_bad (w : World) (n : Int) (hn : n < 1 ∨ 8192 < n) :
    Calls Tryz.prog 47 #[.int .i64 n] w fun e w' => e = .returned (.tuple #[.pointer none, .int .i64 1]) ∧ w = w' := by
  by_cases h1 : n < 1
  · clear hn
    go_enter Tryz.func47, Tryz.ntmps47
    go_wp2
    go_ret2
    exact ⟨rfl, rfl⟩
  · have h2 : 8192 < n := by omega
    clear hn
    go_enter Tryz.func47, Tryz.ntmps47
    go_wp2
    go_ret2
    exact ⟨rfl, rfl⟩

theorem doc_new (w : World) (n : Nat) (h1 : 1 ≤ n) (h2 : n ≤ 8192) :
    Calls Tryz.prog 47 #[.int .i64 n] w (RetDocNew w n) := by
  have a1 : decide ((n : Int) < 1) = false := by simp; omega
  have a2 : decide (8192 < (n : Int)) = false := by simp; omega
  go_enter Tryz.func47, Tryz.ntmps47
  go_wp2_with (at_make; refine wpList_make_pg rfl _ _ 70 rfl tRows rfl n .i64 .i64 rfl rfl (by omega) ?_; intro w2 ho2 hk2)
  go_ret2
  have s2 := hk2.size
  have ka := Kept.alloc Nob w2 (.cells #[.slice (some ⟨w.heap.size, 0, none⟩) n n, .slice none 0 0, .slice none 0 0, .int .i64 0, .bool false, .int .i64 0, .bool false] 119)
  have hlt : w.heap.size < w2.heap.size := ho2.blockLt (g := w.heap.size) rfl
  refine ⟨w2.heap.size, fun k => w.heap.size ≤ k ∧ k < w2.heap.size, rfl, ⟨.slice (some ⟨w.heap.size, 0, none⟩) n n, .slice none 0 0, .slice none 0 0, List.replicate n (.slice none 0 0), [], 0, ?_, by simp, ?_, .inl ⟨rfl, none, 0, rfl, fun _ => rfl⟩, .inl ⟨rfl, none, 0, rfl, fun _ => rfl⟩, ⟨by simp [Dsk.fresh], ?_⟩, ⟨rfl, ?_⟩, rfl, by omega, by omega, Dsk.Wf.fresh h1 h2, ?_⟩, fun k h => h.1, s2, hk2.then ka⟩
  · exact heap_alloc_new w2 _
  · exact (ho2.reads.mono fun k hk h => ⟨h, hk⟩).kept ka (fun _ _ f => f)
  · intro i v x hv hx
    rw [List.getElem?_replicate] at hv
    split at hv
    · rename_i hi
      have hx' : (List.replicate n Dsk.zeroSector)[i]? = some x := hx
      rw [List.getElem?_replicate, if_pos hi] at hx'
      exact .inr ⟨(Option.some.inj hv).symm, (Option.some.inj hx').symm⟩
    · cases hv
  · intro i v k hv
    simp at hv
  · intro k hk
    have := ka.size
    exact Nat.lt_of_lt_of_le hk.2 this
end Go.Proofs.YthppgchmamonnaaGreatDoor
