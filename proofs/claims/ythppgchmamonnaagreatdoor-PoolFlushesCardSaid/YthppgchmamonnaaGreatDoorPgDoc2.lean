/- The document's own disk: op, Cut, full, Read. -/
import Derived.Test.YthppgchmamonnaaGreatDoorPgDoc1
import Derived.Test.YthppgchmamonnaaGreatDoorPgDisk5
namespace Go.Proofs.YthppgchmamonnaaGreatDoor
open Go.RowKit

theorem doc_op (w : World) (m : Nat) (d : Dsk) (R : Nat → Prop) (h : DocAt w m d R) (hops : d.ops < 9223372036854775807) :
    Calls Tryz.prog 109 #[.pointer (some ⟨m, 0, none⟩)] w fun e w' => e = .returned (.bool d.goes) ∧ DocAt w' m d.begun R ∧ Kept (Just m) w w' := by
  obtain ⟨gv, av, nv, gs, ns, left, hb, hR, h1, h2, h3, h4, h5, h6, h7, h8, hw, hu⟩ := h
  have c3 := cell_at hb 3 _ rfl
  have c4 := cell_at hb 4 _ rfl
  have c5 := cell_at hb 5 _ rfl
  have c6 := cell_at hb 6 _ rfl
  have f3 := frozen_at hb 3
  have f5 := frozen_at hb 5
  have f6 := frozen_at hb 6
  have hfin := fun w' l' hk hb' q1 q2 q3 => DocAt.scalars (w := w) (w' := w') (d' := d.begun) (left' := l') hR h1 h2 h3 h4 h5 hu hk hb' rfl rfl rfl q1 q2 q3 hw.begun
  have HF := Lib.hid hfin
  have HB := Lib.hid hb
  have H6 := Lib.hid h6
  have o1 := hw.ops
  clear hfin hb h1 h2 h3 h4 h5 hw hu hR h6
  obtain ⟨good, now, order, ops, cut, dl, off⟩ := d
  simp only at *
  cases off
  · cases cut
    · go_enter Tryz.func109, Tryz.ntmps109
      go_wp2
      go_ret
      refine ⟨ret_bool (by simp [Dsk.goes]), HF.out _ left ?_ ?_ ?_ (by omega) (by omega), ?_⟩
      · with_reducible exact kept1 w m _ _
      · (with_reducible refine (heap_set w m _ _ _ _ HB.out).trans ?_); simp [Dsk.begun, Dsk.goes]
      · simpa [Dsk.begun, Dsk.goes] using H6.out
      · with_reducible exact kept1 w m _ _
    · by_cases hl : left < 1
      · go_enter Tryz.func109, Tryz.ntmps109
        go_wp2
        go_ret
        have h6 := H6.out
        have hd1 : dl < 1 := by omega
        refine ⟨ret_bool (by simp [Dsk.goes, hd1]), HF.out _ left ?_ ?_ ?_ (by omega) (by omega), ?_⟩
        · with_reducible exact kept2 w m _ _ _ _
        · (with_reducible refine (heap2 w m _ _ _ _ _ _ HB.out).trans ?_); simp [Dsk.begun, Dsk.goes, hd1]
        · simpa [Dsk.begun, Dsk.goes, hd1] using h6
        · with_reducible exact kept2 w m _ _ _ _
      · go_enter Tryz.func109, Tryz.ntmps109
        go_wp2
        go_ret
        have h6 := H6.out
        have hd1 : ¬ dl < 1 := by omega
        refine ⟨ret_bool (by simp [Dsk.goes, hd1]), HF.out _ (left - 1) ?_ ?_ ?_ (by omega) (by omega), ?_⟩
        · with_reducible exact kept2 w m _ _ _ _
        · (with_reducible refine (heap2 w m _ _ _ _ _ _ HB.out).trans ?_); simp [Dsk.begun, Dsk.goes, hd1]
        · simp [Dsk.begun, Dsk.goes, hd1]; omega
        · with_reducible exact kept2 w m _ _ _ _
  · go_enter Tryz.func109, Tryz.ntmps109
    go_wp2
    go_ret
    refine ⟨ret_bool (by simp [Dsk.goes]), HF.out _ left ?_ ?_ ?_ (by omega) (by omega), ?_⟩
    · with_reducible exact kept1 w m _ _
    · (with_reducible refine (heap_set w m _ _ _ _ HB.out).trans ?_); simp [Dsk.begun, Dsk.goes]
    · simpa [Dsk.begun, Dsk.goes] using H6.out
    · with_reducible exact kept1 w m _ _

theorem doc_cut (w : World) (m : Nat) (d : Dsk) (R : Nat → Prop) (h : DocAt w m d R) (n : Int) (hn0 : -9223372036854775808 ≤ n) (hn : n ≤ 9223372036854775807) :
    Calls Tryz.prog 59 #[.pointer (some ⟨m, 0, none⟩), .int .i64 n] w fun e w' => e = .returned (.tuple #[]) ∧ DocAt w' m (d.slash n) R ∧ Kept (Just m) w w' := by
  obtain ⟨gv, av, nv, gs, ns, left, hb, hR, h1, h2, h3, h4, h5, h6, h7, h8, hw, hu⟩ := h
  have c4 := cell_at hb 4 _ rfl
  have c5 := cell_at hb 5 _ rfl
  have f4 := frozen_at hb 4
  have f5 := frozen_at hb 5
  have hfin := fun w' l' hk hb' q1 q2 q3 => DocAt.scalars (w := w) (w' := w') (d' := d.slash n) (left' := l') hR h1 h2 h3 h4 h5 hu hk hb' rfl rfl rfl q1 q2 q3 (hw.slash hn)
  have HF := Lib.hid hfin
  have HB := Lib.hid hb
  clear hfin hb h1 h2 h3 h4 h5 hw hu hR h6
  go_enter Tryz.func59, Tryz.ntmps59
  go_wp2
  refine bodyPost_end (results_none rfl _ _ _) rfl ?_
  refine ⟨rfl, HF.out _ n ?_ ?_ rfl hn0 hn, ?_⟩
  · with_reducible exact kept2 w m _ _ _ _
  · (with_reducible refine (heap2 w m _ _ _ _ _ _ HB.out).trans ?_); simp [Dsk.slash]
  · with_reducible exact kept2 w m _ _ _ _

theorem doc_full (w : World) (v : Value) (x : List Value) (R : Nat → Prop) (h : GoodRow w v x R) :
    Calls Tryz.prog 98 #[v] w fun e w' => ∃ b c, e = .returned (.slice b 64 c) ∧ Reads w' (.slice b 64 c) x (Por R (From w.heap.size)) ∧ Kept Nob w w' := by
  have hmk := make64
  rcases h with ⟨hr, hx⟩ | ⟨rfl, rfl⟩
  · obtain ⟨a, c, rfl, -⟩ := hr.shape
    have HR := Lib.hid hr
    clear hr
    rw [hx] at HR ⊢
    go_enter Tryz.func98, Tryz.ntmps98
    go_wp2
    go_ret
    exact ⟨_, _, rfl, HR.out.mono (fun k _ q => .inl q), Kept.refl _ _⟩
  · go_enter Tryz.func98, Tryz.ntmps98
    go_wp2
    go_ret
    exact ⟨_, _, rfl, (own_zero64 w).reads.mono (fun k _ q => .inr q), Kept.alloc _ _ _⟩
end Go.Proofs.YthppgchmamonnaaGreatDoor
