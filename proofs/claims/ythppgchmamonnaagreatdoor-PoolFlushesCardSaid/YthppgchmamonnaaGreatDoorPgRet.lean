/- What a law's walk ends in. No program in sight. -/
import Derived.Test.YthppgchmamonnaaGreatDoorPgDskM
namespace Go.Proofs.YthppgchmamonnaaGreatDoor
open Go.RowKit

/-- behind a law: true, and nothing that was there has turned -/
def RetTrue (w : World) (en : Ending) (w' : World) : Prop := en = .returned (.bool true) ∧ Kept Nob w w'
theorem zeroSector_bytes : ∀ u ∈ Dsk.zeroSector, IsByte u := fun u hu => by
  rw [Dsk.zeroSector, List.mem_replicate] at hu
  rw [hu.2]; exact ⟨0, rfl⟩
end Go.Proofs.YthppgchmamonnaaGreatDoor
