/- Disk: what a disk is in memory, and the walks of the methods. -/
import Derived.Test.YthppgchmamonnaaGreatDoorPgDisk1
import Derived.Test.YthppgchmamonnaaGreatDoorPgDskM
namespace Go.Proofs.YthppgchmamonnaaGreatDoor
open Go.RowKit

/-- The struct at block b, and all that it leads to, is the disk d; the blocks are in F. -/
def DiskAt (w : World) (b : Nat) (d : Dsk) (F : Nat → Prop) : Prop :=
  ∃ gv nv ov, w.heap[b]? = some (.cells #[gv, nv, ov, .int .i64 d.ops, .bool d.cut, .int .i64 d.left, .bool d.off] 72 (0, 0)) ∧ F b ∧
    OwnRows w 50 5 gv d.good F ∧ OwnRows w 50 5 nv d.now F ∧ Own w 3 ov (d.order.map (Value.int .i64)) F ∧
    (∀ g, gv.ownBlock = some g → nv.ownBlock ≠ some g) ∧ d.Wf ∧ Under F w.heap.size

theorem DiskAt.wf {w : World} {b : Nat} {d : Dsk} {F : Nat → Prop} (h : DiskAt w b d F) : d.Wf := by obtain ⟨_, _, _, _, _, _, _, _, _, h, _⟩ := h; exact h
theorem DiskAt.under {w : World} {b : Nat} {d : Dsk} {F : Nat → Prop} (h : DiskAt w b d F) : Under F w.heap.size := by obtain ⟨_, _, _, _, _, _, _, _, _, _, h⟩ := h; exact h
theorem DiskAt.has {w : World} {b : Nat} {d : Dsk} {F : Nat → Prop} (h : DiskAt w b d F) : F b := by obtain ⟨_, _, _, _, h, _⟩ := h; exact h
theorem DiskAt.kept {w w' : World} {b : Nat} {d : Dsk} {F G : Nat → Prop} (h : DiskAt w b d F) (hk : Kept G w w') (hd : Disj F G) : DiskAt w' b d F := by
  obtain ⟨gv, nv, ov, hb, hF, hg, hn, ho, ha, hw, hu⟩ := h
  have hlt : b < w.heap.size := (Array.getElem?_eq_some_iff.1 hb).1
  exact ⟨gv, nv, ov, (hk.block b hlt (hd b hF)).trans hb, hF, hg.kept hk hd, hn.kept hk hd, ho.kept hk hd, ha, hw, hu.mono hk.size⟩

/-- scalars of the struct turn -/
theorem DiskAt.scalars {w w' : World} {b : Nat} {d d' : Dsk} {F : Nat → Prop} {gv nv ov : Value}
    (hb : w.heap[b]? = some (.cells #[gv, nv, ov, .int .i64 d.ops, .bool d.cut, .int .i64 d.left, .bool d.off] 72 (0, 0)))
    (hF : F b) (hg : OwnRows w 50 5 gv d.good F) (hn : OwnRows w 50 5 nv d.now F) (ho : Own w 3 ov (d.order.map (Value.int .i64)) F)
    (ha : ∀ g, gv.ownBlock = some g → nv.ownBlock ≠ some g) (hu : Under F w.heap.size) (hk : Kept (Just b) w w')
    (hb' : w'.heap[b]? = some (.cells #[gv, nv, ov, .int .i64 d'.ops, .bool d'.cut, .int .i64 d'.left, .bool d'.off] 72 (0, 0)))
    (e1 : d'.good = d.good) (e2 : d'.now = d.now) (e3 : d'.order = d.order) (hw : d'.Wf) : DiskAt w' b d' F := by
  have hd : ∀ k, Just b k → ∃ cs e' fz, w.heap[k]? = some (.cells cs e' fz) ∧ e' ≠ 50 ∧ e' ≠ 5 := fun k hk => by
    rw [show k = b from hk]; exact ⟨_, _, _, hb, by decide, by decide⟩
  refine ⟨gv, nv, ov, hb', hF, ?_, ?_, ?_, ha, hw, hu.mono hk.size⟩
  · rw [e1]; exact hg.keptT hk hd
  · rw [e2]; exact hn.keptT hk hd
  · rw [e3]; exact ho.keptT hk fun k hk' => by rw [show k = b from hk']; exact ho.not_in hb (by decide)

theorem cell_at {w : World} {b : Nat} {cs : Array Value} {e : TypeId} {fz : Nat × Nat} (hb : w.heap[b]? = some (.cells cs e fz)) (i : Nat) (v : Value) (hi : cs[i]? = some v) : w.cell? ⟨b, i, none⟩ = some v := by
  rw [cell_of_row w b i cs e fz hb, hi]
theorem frozen_at {w : World} {b : Nat} {cs : Array Value} {e : TypeId} (hb : w.heap[b]? = some (.cells cs e (0, 0))) (i : Nat) : w.frozen? ⟨b, i, none⟩ = false := frozen_of_row w b i cs e hb

theorem disk_len (w : World) (b : Nat) (d : Dsk) (F : Nat → Prop) (h : DiskAt w b d F) :
    Calls Tryz.prog 33 #[.pointer (some ⟨b, 0, none⟩)] w fun e w' => e = .returned (.int .i64 d.good.length) ∧ w = w' := by
  obtain ⟨gv, nv, ov, hb, hF, hg, ⟨vs, hn, hn2⟩, ho, ha, hw, hu⟩ := h
  obtain ⟨a, c, rfl, _⟩ := hn.reads.shape
  have h1 := cell_at hb 1 _ rfl
  have e1 : vs.length = d.good.length := by rw [hn2.len, hw.len]
  rw [e1] at h1
  clear hb hg hn hn2 ho ha e1
  generalize d.good.length = n at *
  go_enter Tryz.func33, Tryz.ntmps33
  go_wp2
  go_ret
  exact ⟨rfl, rfl⟩
theorem disk_len_nil (w : World) :
    Calls Tryz.prog 33 #[.pointer none] w fun e w' => e = .returned (.int .i64 0) ∧ w = w' := by
  go_enter Tryz.func33, Tryz.ntmps33
  go_wp2
  go_ret
  exact ⟨rfl, rfl⟩
theorem disk_gone (w : World) (b : Nat) (d : Dsk) (F : Nat → Prop) (h : DiskAt w b d F) :
    Calls Tryz.prog 40 #[.pointer (some ⟨b, 0, none⟩)] w fun e w' => e = .returned (.bool false) ∧ w = w' := by
  have H := Lib.hid (disk_len w b d F h)
  have hp := h.wf.pos
  have hm := h.wf.most
  clear h
  have h0 : ((d.good.length : Int) == 0) = false := beq_eq_false_iff_ne.2 (by omega)
  generalize d.good.length = n at *
  go_enter Tryz.func40, Tryz.ntmps40
  go_wp2_with (go_at_call 33; refine H.out.mono ?_; rintro e w' ⟨rfl, rfl⟩)
  go_ret
  exact ⟨rfl, rfl⟩
theorem disk_gone_nil (w : World) :
    Calls Tryz.prog 40 #[.pointer none] w fun e w' => e = .returned (.bool true) ∧ w = w' := by
  go_enter Tryz.func40, Tryz.ntmps40
  go_wp2_with (go_at_call 33; refine (disk_len_nil w).mono ?_; rintro e w' ⟨rfl, rfl⟩)
  go_ret
  exact ⟨rfl, rfl⟩

theorem ret_bool {a b : Bool} (h : a = b) : Ending.returned (.bool a) = .returned (.bool b) := by rw [h]
theorem ret_int {k : IntKind} {a b : Int} (h : a = b) : Ending.returned (.int k a) = .returned (.int k b) := by rw [h]
/-- the struct's block behind a store -/
theorem heap_set (w : World) (b i : Nat) (cs : Array Value) (e : TypeId) (v : Value) (hb : w.heap[b]? = some (.cells cs e (0, 0))) : (w.setCell ⟨b, i, none⟩ v).heap[b]? = some (.cells (cs.setIfInBounds i v) e (0, 0)) :=
  heap_setCell_same w b i cs e v hb

theorem kept2 (w : World) (b i j : Nat) (v u : Value) : Kept (Just b) w ((w.setCell ⟨b, i, none⟩ v).setCell ⟨b, j, none⟩ u) := (kept1 w b i v).trans' (kept1 _ b j u)
theorem kept3 (w : World) (b i j k : Nat) (v u x : Value) : Kept (Just b) w (((w.setCell ⟨b, i, none⟩ v).setCell ⟨b, j, none⟩ u).setCell ⟨b, k, none⟩ x) := (kept2 w b i j v u).trans' (kept1 _ b k x)
theorem heap2 (w : World) (b i j : Nat) (v u : Value) (cs : Array Value) (e : TypeId) (hb : w.heap[b]? = some (.cells cs e (0, 0))) : ((w.setCell ⟨b, i, none⟩ v).setCell ⟨b, j, none⟩ u).heap[b]? = some (.cells ((cs.setIfInBounds i v).setIfInBounds j u) e (0, 0)) :=
  heap_set _ b j _ _ _ (heap_set _ b i _ _ _ hb)
theorem heap3 (w : World) (b i j k : Nat) (v u x : Value) (cs : Array Value) (e : TypeId) (hb : w.heap[b]? = some (.cells cs e (0, 0))) : (((w.setCell ⟨b, i, none⟩ v).setCell ⟨b, j, none⟩ u).setCell ⟨b, k, none⟩ x).heap[b]? = some (.cells (((cs.setIfInBounds i v).setIfInBounds j u).setIfInBounds k x) e (0, 0)) :=
  heap_set _ b k _ _ _ (heap2 w b i j v u cs e hb)

theorem disk_begin (w : World) (b : Nat) (d : Dsk) (F : Nat → Prop) (h : DiskAt w b d F) (hops : d.ops < 9223372036854775807) :
    Calls Tryz.prog 79 #[.pointer (some ⟨b, 0, none⟩)] w fun e w' => e = .returned (.bool d.goes) ∧ DiskAt w' b d.begun F ∧ Kept (Just b) w w' := by
  obtain ⟨gv, nv, ov, hb, hF, hg, hn, ho, ha, hw, hu⟩ := h
  have c3 := cell_at hb 3 _ rfl
  have c4 := cell_at hb 4 _ rfl
  have c5 := cell_at hb 5 _ rfl
  have c6 := cell_at hb 6 _ rfl
  have f3 := frozen_at hb 3
  have f5 := frozen_at hb 5
  have f6 := frozen_at hb 6
  have hfin := fun w' hk hb' => DiskAt.scalars (w' := w') (d' := d.begun) hb hF hg hn ho ha hu hk hb' rfl rfl rfl hw.begun
  have HF := Lib.hid hfin
  have HB := Lib.hid hb
  have o1 := hw.ops
  have l1 := hw.left.1
  have l2 := hw.left.2
  clear hfin hb hg hn ho ha hw hu
  obtain ⟨good, now, order, ops, cut, left, off⟩ := d
  simp only at *
  cases off <;> cases cut
  all_goals try (by_cases hl : left < 1)
  all_goals
    go_enter Tryz.func79, Tryz.ntmps79
    go_wp2
    go_ret
  all_goals
    refine ⟨ret_bool (by simp [Dsk.goes]; try omega), HF.out _ ?_ ?_, ?_⟩
    · first | with_reducible exact kept2 w b _ _ _ _ | with_reducible exact kept3 w b _ _ _ _ _ _
    · first
        | (with_reducible refine (heap2 w b _ _ _ _ _ _ HB.out).trans ?_); simp [Dsk.begun, Dsk.goes, *]; done
        | (with_reducible refine (heap3 w b _ _ _ _ _ _ _ _ HB.out).trans ?_); simp [Dsk.begun, Dsk.goes, *]; done
    · first | with_reducible exact kept2 w b _ _ _ _ | with_reducible exact kept3 w b _ _ _ _ _ _
end Go.Proofs.YthppgchmamonnaaGreatDoor
