/- Disk: Ops. -/
import Derived.Test.YthppgchmamonnaaGreatDoorPgDisk6
namespace Go.Proofs.YthppgchmamonnaaGreatDoor
open Go.RowKit

theorem disk_ops' (w : World) (b : Nat) (d : Dsk) (F : Nat → Prop) (h : DiskAt w b d F) :
    Calls Tryz.prog 19 #[.pointer (some ⟨b, 0, none⟩)] w fun e w' => e = .returned (.int .i64 d.ops) ∧ w = w' := by
  have H := Lib.hid (disk_gone w b d F h)
  obtain ⟨gv, nv, ov, hb, hF, hg, hn, ho, ha, hw, hu⟩ := h
  have c3 := cell_at hb 3 _ rfl
  clear hb hg hn ho ha hw hu
  go_enter Tryz.func19, Tryz.ntmps19
  go_wp2_with (go_at_call 40; refine H.out.mono ?_; rintro e w' ⟨rfl, rfl⟩)
  go_ret
  exact ⟨rfl, rfl⟩
end Go.Proofs.YthppgchmamonnaaGreatDoor
