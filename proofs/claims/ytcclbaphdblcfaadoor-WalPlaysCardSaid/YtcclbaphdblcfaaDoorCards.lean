/-
  DERIVED. GIVEN WITH THE SEED: THE CARDS: each row of YtcclbaphdblcfaaDoorRows.lean that lists a variable, with what it lists TIED to the program's text (the seventh form; the later family's looks); each row that meets fmt, with fmt's text TOLD by the authors' own Lean function (tested against real Go, not proved from fmt's source: count such statements apart). THE CARD IS WHAT COUNTS. Prove the row's statement (the work); the ties are given (YtcclbaphdblcfaaDoorTie.lean); close each card by the builder's one call (the guide's Derived/Test/ToyasCard.lean, 'card_holds'). Laid BY PROGRAM, IN A SANDBOX (cutbox-door.mjs). By AI agents, Wed Nov 11 2026. No macro, syntax, notation, axiom, sorry.
-/
import Derived.Test.YtcclbaphdblcfaaDoorRows
import GoSem.ClaimSeven
namespace Go.Proofs.YtcclbaphdblcfaaDoor
namespace Rows

/-- THE TIED CARD OF 'pergolalaw13.WalPlays'. -/
def walPlaysCard : Claim7 := { stood := { row := walPlaysRow, standIns := [], harness := (true, "8a3ab7747a249184b20173e6744a91679aa5f27e50749897e49fdcfbd949fc06"), looks := true }, kinds := [], alts := [], laidByText := true, laidKinds := [.handle], laidTests := true, laidLooks := .later }
def WalPlaysCardSaid : Prop := Claim7.holds Tryd.pinned (.plain (OpenSpec.ofChange walPlaysSpec)) walPlaysCard

/-- THE TIED CARD OF 'pergolalaw13.WalTurns'. -/
def walTurnsCard : Claim7 := { stood := { row := walTurnsRow, standIns := [], harness := (true, "8a3ab7747a249184b20173e6744a91679aa5f27e50749897e49fdcfbd949fc06"), looks := true }, kinds := [], alts := [], laidByText := true, laidKinds := [.handle], laidTests := true, laidLooks := .later }
def WalTurnsCardSaid : Prop := Claim7.holds Tryd.pinned (.plain (OpenSpec.ofChange walTurnsSpec)) walTurnsCard

/-- THE TIED CARD OF 'pergolalaw13.WalNothing'. -/
def walNothingCard : Claim7 := { stood := { row := walNothingRow, standIns := [], harness := (true, "8a3ab7747a249184b20173e6744a91679aa5f27e50749897e49fdcfbd949fc06"), looks := true }, kinds := [], alts := [], laidByText := true, laidKinds := [.handle], laidTests := true, laidLooks := .later }
def WalNothingCardSaid : Prop := Claim7.holds Tryd.pinned (.plain (OpenSpec.ofChange walNothingSpec)) walNothingCard

/-- THE TIED CARD OF 'pergolalaw13.WalApart'. -/
def walApartCard : Claim7 := { stood := { row := walApartRow, standIns := [], harness := (true, "8a3ab7747a249184b20173e6744a91679aa5f27e50749897e49fdcfbd949fc06"), looks := true }, kinds := [], alts := [], laidByText := true, laidKinds := [.handle], laidTests := true, laidLooks := .later }
def WalApartCardSaid : Prop := Claim7.holds Tryd.pinned (.plain (OpenSpec.ofChange walApartSpec)) walApartCard

/-- THE TIED CARD OF 'pergolalaw13.WalOpens'. -/
def walOpensCard : Claim7 := { stood := { row := walOpensRow, standIns := [], harness := (true, "8a3ab7747a249184b20173e6744a91679aa5f27e50749897e49fdcfbd949fc06"), looks := true }, kinds := [], alts := [], laidByText := true, laidKinds := [.handle], laidTests := true, laidLooks := .later }
def WalOpensCardSaid : Prop := Claim7.holds Tryd.pinned (.plain (OpenSpec.ofChange walOpensSpec)) walOpensCard

/-- THE TIED CARD OF 'pergolalaw13.WalKeeps'. -/
def walKeepsCard : Claim7 := { stood := { row := walKeepsRow, standIns := [], harness := (true, "8a3ab7747a249184b20173e6744a91679aa5f27e50749897e49fdcfbd949fc06"), looks := true }, kinds := [], alts := [], laidByText := true, laidKinds := [.handle], laidTests := true, laidLooks := .later }
def WalKeepsCardSaid : Prop := Claim7.holds Tryd.pinned (.plain (OpenSpec.ofChange walKeepsSpec)) walKeepsCard

/-- THE SECOND FORM's CARD OF 'pergolalaw13.WalPlays'. -/
def walPlaysUptoCard : Claim7 := { stood := { row := walPlaysUptoRow, standIns := [], harness := (true, "8a3ab7747a249184b20173e6744a91679aa5f27e50749897e49fdcfbd949fc06"), looks := true }, kinds := [], alts := [], laidByText := true, laidKinds := [.handle], laidTests := true, laidLooks := .later }
def WalPlaysUptoCardSaid : Prop := Claim7.holds Tryd.pinned (.plain (OpenSpec.upto walPlaysSpec)) walPlaysUptoCard

/-- THE SECOND FORM's CARD OF 'pergolalaw13.WalTurns'. -/
def walTurnsUptoCard : Claim7 := { stood := { row := walTurnsUptoRow, standIns := [], harness := (true, "8a3ab7747a249184b20173e6744a91679aa5f27e50749897e49fdcfbd949fc06"), looks := true }, kinds := [], alts := [], laidByText := true, laidKinds := [.handle], laidTests := true, laidLooks := .later }
def WalTurnsUptoCardSaid : Prop := Claim7.holds Tryd.pinned (.plain (OpenSpec.upto walTurnsSpec)) walTurnsUptoCard

/-- THE SECOND FORM's CARD OF 'pergolalaw13.WalNothing'. -/
def walNothingUptoCard : Claim7 := { stood := { row := walNothingUptoRow, standIns := [], harness := (true, "8a3ab7747a249184b20173e6744a91679aa5f27e50749897e49fdcfbd949fc06"), looks := true }, kinds := [], alts := [], laidByText := true, laidKinds := [.handle], laidTests := true, laidLooks := .later }
def WalNothingUptoCardSaid : Prop := Claim7.holds Tryd.pinned (.plain (OpenSpec.upto walNothingSpec)) walNothingUptoCard

/-- THE SECOND FORM's CARD OF 'pergolalaw13.WalApart'. -/
def walApartUptoCard : Claim7 := { stood := { row := walApartUptoRow, standIns := [], harness := (true, "8a3ab7747a249184b20173e6744a91679aa5f27e50749897e49fdcfbd949fc06"), looks := true }, kinds := [], alts := [], laidByText := true, laidKinds := [.handle], laidTests := true, laidLooks := .later }
def WalApartUptoCardSaid : Prop := Claim7.holds Tryd.pinned (.plain (OpenSpec.upto walApartSpec)) walApartUptoCard

/-- THE SECOND FORM's CARD OF 'pergolalaw13.WalOpens'. -/
def walOpensUptoCard : Claim7 := { stood := { row := walOpensUptoRow, standIns := [], harness := (true, "8a3ab7747a249184b20173e6744a91679aa5f27e50749897e49fdcfbd949fc06"), looks := true }, kinds := [], alts := [], laidByText := true, laidKinds := [.handle], laidTests := true, laidLooks := .later }
def WalOpensUptoCardSaid : Prop := Claim7.holds Tryd.pinned (.plain (OpenSpec.upto walOpensSpec)) walOpensUptoCard

/-- THE SECOND FORM's CARD OF 'pergolalaw13.WalKeeps'. -/
def walKeepsUptoCard : Claim7 := { stood := { row := walKeepsUptoRow, standIns := [], harness := (true, "8a3ab7747a249184b20173e6744a91679aa5f27e50749897e49fdcfbd949fc06"), looks := true }, kinds := [], alts := [], laidByText := true, laidKinds := [.handle], laidTests := true, laidLooks := .later }
def WalKeepsUptoCardSaid : Prop := Claim7.holds Tryd.pinned (.plain (OpenSpec.upto walKeepsSpec)) walKeepsUptoCard
end Rows
end Go.Proofs.YtcclbaphdblcfaaDoor
