/-
  DERIVED. GIVEN WITH THE SEED: THE CARDS: each row of YthppgchmamonnaaGreatDoorRows.lean that lists a variable, with what it lists TIED to the program's text (the seventh form; the later family's looks); each row that meets fmt, with fmt's text TOLD by the authors' own Lean function (tested against real Go, not proved from fmt's source: count such statements apart). THE CARD IS WHAT COUNTS. Prove the row's statement (the work); the ties are given (YthppgchmamonnaaGreatDoorTie.lean); close each card by the builder's one call (the guide's Derived/Test/ToyasCard.lean, 'card_holds'). Laid BY PROGRAM, IN A SANDBOX (cutbox-door.mjs). By AI agents, Wed Nov 11 2026. No macro, syntax, notation, axiom, sorry.
-/
import Derived.Test.YthppgchmamonnaaGreatDoorRows
import GoSem.ClaimSeven
namespace Go.Proofs.YthppgchmamonnaaGreatDoor
namespace Rows

/-- THE TIED CARD OF 'pergolalaw12.PoolPins'. -/
def poolPinsCard : Claim7 := { stood := { row := poolPinsRow, standIns := [], harness := (true, "0614797ef16abd8c290b54157c7d4954f508a37d7cf0ebb42890357a8c9ea01e"), looks := true }, kinds := [], alts := [], laidByText := true, laidKinds := [.handle], laidTests := true, laidLooks := .later }
def PoolPinsCardSaid : Prop := Claim7.holds Tryz.pinned (.plain (OpenSpec.ofChange poolPinsSpec)) poolPinsCard

/-- THE TIED CARD OF 'pergolalaw12.PoolOld'. -/
def poolOldCard : Claim7 := { stood := { row := poolOldRow, standIns := [], harness := (true, "0614797ef16abd8c290b54157c7d4954f508a37d7cf0ebb42890357a8c9ea01e"), looks := true }, kinds := [], alts := [], laidByText := true, laidKinds := [.handle], laidTests := true, laidLooks := .later }
def PoolOldCardSaid : Prop := Claim7.holds Tryz.pinned (.plain (OpenSpec.ofChange poolOldSpec)) poolOldCard

/-- THE TIED CARD OF 'pergolalaw12.PoolNothing'. -/
def poolNothingCard : Claim7 := { stood := { row := poolNothingRow, standIns := [], harness := (true, "0614797ef16abd8c290b54157c7d4954f508a37d7cf0ebb42890357a8c9ea01e"), looks := true }, kinds := [], alts := [], laidByText := true, laidKinds := [.handle], laidTests := true, laidLooks := .later }
def PoolNothingCardSaid : Prop := Claim7.holds Tryz.pinned (.plain (OpenSpec.ofChange poolNothingSpec)) poolNothingCard

/-- THE TIED CARD OF 'pergolalaw12.PoolLast'. -/
def poolLastCard : Claim7 := { stood := { row := poolLastRow, standIns := [], harness := (true, "0614797ef16abd8c290b54157c7d4954f508a37d7cf0ebb42890357a8c9ea01e"), looks := true }, kinds := [], alts := [], laidByText := true, laidKinds := [.handle], laidTests := true, laidLooks := .later }
def PoolLastCardSaid : Prop := Claim7.holds Tryz.pinned (.plain (OpenSpec.ofChange poolLastSpec)) poolLastCard

/-- THE TIED CARD OF 'pergolalaw12.PoolFlushes'. -/
def poolFlushesCard : Claim7 := { stood := { row := poolFlushesRow, standIns := [], harness := (true, "0614797ef16abd8c290b54157c7d4954f508a37d7cf0ebb42890357a8c9ea01e"), looks := true }, kinds := [], alts := [], laidByText := true, laidKinds := [.handle], laidTests := true, laidLooks := .later }
def PoolFlushesCardSaid : Prop := Claim7.holds Tryz.pinned (.plain (OpenSpec.ofChange poolFlushesSpec)) poolFlushesCard

/-- THE TIED CARD OF 'pergolalaw12.PoolPlays'. -/
def poolPlaysCard : Claim7 := { stood := { row := poolPlaysRow, standIns := [], harness := (true, "0614797ef16abd8c290b54157c7d4954f508a37d7cf0ebb42890357a8c9ea01e"), looks := true }, kinds := [], alts := [], laidByText := true, laidKinds := [.handle], laidTests := true, laidLooks := .later }
def PoolPlaysCardSaid : Prop := Claim7.holds Tryz.pinned (.plain (OpenSpec.ofChange poolPlaysSpec)) poolPlaysCard

/-- THE SECOND FORM's CARD OF 'pergolalaw12.PoolPins'. -/
def poolPinsUptoCard : Claim7 := { stood := { row := poolPinsUptoRow, standIns := [], harness := (true, "0614797ef16abd8c290b54157c7d4954f508a37d7cf0ebb42890357a8c9ea01e"), looks := true }, kinds := [], alts := [], laidByText := true, laidKinds := [.handle], laidTests := true, laidLooks := .later }
def PoolPinsUptoCardSaid : Prop := Claim7.holds Tryz.pinned (.plain (OpenSpec.upto poolPinsSpec)) poolPinsUptoCard

/-- THE SECOND FORM's CARD OF 'pergolalaw12.PoolOld'. -/
def poolOldUptoCard : Claim7 := { stood := { row := poolOldUptoRow, standIns := [], harness := (true, "0614797ef16abd8c290b54157c7d4954f508a37d7cf0ebb42890357a8c9ea01e"), looks := true }, kinds := [], alts := [], laidByText := true, laidKinds := [.handle], laidTests := true, laidLooks := .later }
def PoolOldUptoCardSaid : Prop := Claim7.holds Tryz.pinned (.plain (OpenSpec.upto poolOldSpec)) poolOldUptoCard

/-- THE SECOND FORM's CARD OF 'pergolalaw12.PoolNothing'. -/
def poolNothingUptoCard : Claim7 := { stood := { row := poolNothingUptoRow, standIns := [], harness := (true, "0614797ef16abd8c290b54157c7d4954f508a37d7cf0ebb42890357a8c9ea01e"), looks := true }, kinds := [], alts := [], laidByText := true, laidKinds := [.handle], laidTests := true, laidLooks := .later }
def PoolNothingUptoCardSaid : Prop := Claim7.holds Tryz.pinned (.plain (OpenSpec.upto poolNothingSpec)) poolNothingUptoCard

/-- THE SECOND FORM's CARD OF 'pergolalaw12.PoolLast'. -/
def poolLastUptoCard : Claim7 := { stood := { row := poolLastUptoRow, standIns := [], harness := (true, "0614797ef16abd8c290b54157c7d4954f508a37d7cf0ebb42890357a8c9ea01e"), looks := true }, kinds := [], alts := [], laidByText := true, laidKinds := [.handle], laidTests := true, laidLooks := .later }
def PoolLastUptoCardSaid : Prop := Claim7.holds Tryz.pinned (.plain (OpenSpec.upto poolLastSpec)) poolLastUptoCard

/-- THE SECOND FORM's CARD OF 'pergolalaw12.PoolFlushes'. -/
def poolFlushesUptoCard : Claim7 := { stood := { row := poolFlushesUptoRow, standIns := [], harness := (true, "0614797ef16abd8c290b54157c7d4954f508a37d7cf0ebb42890357a8c9ea01e"), looks := true }, kinds := [], alts := [], laidByText := true, laidKinds := [.handle], laidTests := true, laidLooks := .later }
def PoolFlushesUptoCardSaid : Prop := Claim7.holds Tryz.pinned (.plain (OpenSpec.upto poolFlushesSpec)) poolFlushesUptoCard

/-- THE SECOND FORM's CARD OF 'pergolalaw12.PoolPlays'. -/
def poolPlaysUptoCard : Claim7 := { stood := { row := poolPlaysUptoRow, standIns := [], harness := (true, "0614797ef16abd8c290b54157c7d4954f508a37d7cf0ebb42890357a8c9ea01e"), looks := true }, kinds := [], alts := [], laidByText := true, laidKinds := [.handle], laidTests := true, laidLooks := .later }
def PoolPlaysUptoCardSaid : Prop := Claim7.holds Tryz.pinned (.plain (OpenSpec.upto poolPlaysSpec)) poolPlaysUptoCard
end Rows
end Go.Proofs.YthppgchmamonnaaGreatDoor
