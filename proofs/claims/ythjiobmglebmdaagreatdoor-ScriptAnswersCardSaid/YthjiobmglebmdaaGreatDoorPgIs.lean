/- pergolaalike.Is: of no error, and of a fault with that op and id. -/
import Derived.Test.YthjiobmglebmdaaGreatDoorPgAs
import Derived.Test.YthjiobmglebmdaaGreatDoorPgErr
import Derived.Test.YthjiobmglebmdaaGreatDoorPgFault
namespace Go.Proofs.YthjiobmglebmdaaGreatDoor
open Go.RowKit

/-- the library's variable holds the type 'error' -/
def Typed (w : World) : Prop := w.cell? ⟨0, 0, none⟩ = some (.iface 158 (.agg #[.pointer (some ⟨11, 51, none⟩)]))
theorem Typed.kept {F : Nat → Prop} {w w' : World} (h : Typed w) (hk : Kept F w w') (h0 : ¬ F 0) : Typed w' :=
  (hk.cell (p := ⟨0, 0, none⟩) (cell_lt h) h0).trans h

/-- errors.As, of a fault, into a variable of its own -/
theorem as_fault (w : World) (e b : Nat) (old : Value) (hg : Typed w) (ht : w.cell? ⟨b, 0, none⟩ = some old) (hf : w.frozen? ⟨b, 0, none⟩ = false) :
    Calls Tryz.prog 48 #[.iface 94 (.pointer (some ⟨e, 0, none⟩)), .iface 96 (.pointer (some ⟨b, 0, none⟩))] w fun ev w' =>
      ev = .returned (.bool true) ∧ Kept (Just b) w w' ∧ w'.cell? ⟨b, 0, none⟩ = some (.pointer (some ⟨e, 0, none⟩)) := by
  refine (as_hit ⟨e, 0, none⟩ ⟨b, 0, none⟩ old w hg ht hf).mono ?_
  rintro ev w' ⟨rfl, rfl⟩
  have hlt : b < w.heap.size := cell_lt ht
  have K := (((Kept.alloc (Just b) w (.cells #[.pointer (some ⟨b, 0, none⟩)] 96)).trans' (Kept.alloc (Just b) _ (.cells #[.pointer (some ⟨11, 96, none⟩), .pointer (some ⟨w.heap.size, 0, none⟩), .int .u64 150] 132))).trans' (Kept.alloc (Just b) _ (.cells #[.pointer (some ⟨11, 96, none⟩), .pointer (some ⟨w.heap.size, 0, none⟩), .int .u64 150] 132))).trans' (Kept.alloc (Just b) _ (.cells #[.pointer (some ⟨e, 0, none⟩)] 94))
  refine ⟨rfl, K.trans' (Kept.setCell _ ⟨b, 0, none⟩ _ rfl), ?_⟩
  refine World.cell?_setCell_same _ _ _ (u := old) ?_
  rw [World.cell?_alloc_lt _ _ ⟨b, 0, none⟩ (by simp; omega), World.cell?_alloc_lt _ _ ⟨b, 0, none⟩ (by simp; omega), World.cell?_alloc_lt _ _ ⟨b, 0, none⟩ (by simp; omega), World.cell?_alloc_lt _ _ ⟨b, 0, none⟩ hlt]
  exact ht

theorem is_none (w : World) (op : ByteArray) (id : Int) :
    Calls Tryz.prog 23 #[.nilIface, .int .i64 0, .string op, .int .i64 id] w fun e w' => e = .returned (.bool true) ∧ w = w' := by
  go_enter Tryz.func23, Tryz.ntmps23
  go_wp2_with (go_at_call 19; refine (code_nil _).mono ?_; rintro e w' ⟨rfl, rfl⟩)
  go_ret
  exact ⟨rfl, rfl⟩

theorem is_this (w : World) (v : Value) (op : ByteArray) (id code : Int) (F : Nat → Prop) (h : FaultAt w v op id code F) (h1 : 1 ≤ code) (h2 : code ≤ 15) (ht : Typed w) :
    Calls Tryz.prog 23 #[v, .int .i64 code, .string op, .int .i64 id] w (RetTrue w) := by
  obtain ⟨g, rfl, -, hg, hb⟩ := h
  have HC := Lib.hid (code_fault w g code (cell_at hb 2 _ rfl) h1 h2)
  have HB := Lib.hid hb
  have HG := Lib.hid hg
  have HT := Lib.hid ht
  have H1 := Lib.hid h1
  clear hb hg ht h2
  go_enter Tryz.func23, Tryz.ntmps23
  go_wp2_with (go_at_call 19; refine HC.out.mono ?_; rintro e w' ⟨rfl, rfl⟩)
  have K1 := Lib.hid (Kept.alloc Nob w (.cells #[.pointer none] 94))
  have T1 := Lib.hid (HT.out.kept K1.out (fun f => f))
  have A1 := Lib.hid (as_fault _ g w.heap.size (.pointer none) T1.out (by simp) (by simp))
  refine A1.out.mono ?_
  rintro e w2 ⟨rfl, k2, c2⟩
  have hb2 : w2.heap[g]? = some (.cells #[.string op, .int .i64 id, .iface 31 (.int .i64 code)] 98 (0, 0)) :=
    (k2.block g (Nat.lt_of_lt_of_le HG.out K1.out.size) (by show ¬ g = w.heap.size; have := HG.out; omega)).trans ((K1.out.block g HG.out (fun f => f)).trans HB.out)
  have c0 := cell_at hb2 0 _ rfl
  have c1 := cell_at hb2 1 _ rfl
  have KK := Lib.hid (K1.out.trans k2 (fun x hx hj => absurd hx (by show ¬ x < w.heap.size; have : x = w.heap.size := hj; omega)))
  clear k2 hb2
  go_wp2
  go_ret
  exact ⟨rfl, KK.out⟩
end Go.Proofs.YthjiobmglebmdaaGreatDoor
