/- Disk: Cut. -/
import Derived.Test.YthjjckpgjfjokaaDoorPgDisk7
import Derived.Test.YthjjckpgjfjokaaDoorPgDisk8
namespace Go.Proofs.YthjjckpgjfjokaaDoor
open Go.RowKit

theorem disk_cut (w : World) (b : Nat) (d : Dsk) (F : Nat → Prop) (h : DiskAt w b d F) (n : Int) (hn : n ≤ 9223372036854775807) :
    Calls Tryd.prog 7 #[.pointer (some ⟨b, 0, none⟩), .int .i64 n] w fun e w' => e = .returned (.tuple #[]) ∧ DiskAt w' b (d.slash n) F ∧ Kept (Just b) w w' := by
  have HG := Lib.hid (disk_gone w b d F h)
  obtain ⟨gv, nv, ov, hb, hF, hg, hn2, ho, ha, hw, hu⟩ := h
  have c4 := cell_at hb 4 _ rfl
  have c5 := cell_at hb 5 _ rfl
  have f4 := frozen_at hb 4
  have f5 := frozen_at hb 5
  have hfin := fun w' hk hb' => DiskAt.scalars (w' := w') (d' := d.slash n) hb hF hg hn2 ho ha hu hk hb' rfl rfl rfl (hw.slash hn)
  have HF := Lib.hid hfin
  have HB := Lib.hid hb
  clear hfin hb hg hn2 ho ha hw hu hF
  by_cases hp : n < 0
  all_goals
    go_enter Tryd.func7, Tryd.ntmps7
    go_wp2_with (go_at_call 30; refine HG.out.mono ?_; rintro e w' ⟨rfl, rfl⟩)
    refine bodyPost_end (results_none rfl _ _ _) rfl ?_
  all_goals
    refine ⟨rfl, HF.out _ ?_ ?_, ?_⟩
    · with_reducible exact kept2 w b _ _ _ _
    · (with_reducible refine (heap2 w b _ _ _ _ _ _ HB.out).trans ?_); simp [Dsk.slash]; omega
    · with_reducible exact kept2 w b _ _ _ _
end Go.Proofs.YthjjckpgjfjokaaDoor
