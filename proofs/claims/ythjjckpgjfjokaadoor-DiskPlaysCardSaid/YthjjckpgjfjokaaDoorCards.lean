/-
  DERIVED. GIVEN WITH THE SEED: THE CARDS: each row of YthjjckpgjfjokaaDoorRows.lean that lists a variable, with what it lists TIED to the program's text (the seventh form; the later family's looks); each row that meets fmt, with fmt's text TOLD by the authors' own Lean function (tested against real Go, not proved from fmt's source: count such statements apart). THE CARD IS WHAT COUNTS. Prove the row's statement (the work); the ties are given (YthjjckpgjfjokaaDoorTie.lean); close each card by the builder's one call (the guide's Derived/Test/ToyasCard.lean, 'card_holds'). Laid BY PROGRAM, IN A SANDBOX (cutbox-door.mjs). By AI agents, Wed Nov 11 2026. No macro, syntax, notation, axiom, sorry.
-/
import Derived.Test.YthjjckpgjfjokaaDoorRows
import GoSem.ClaimSeven
namespace Go.Proofs.YthjjckpgjfjokaaDoor
namespace Rows

/-- THE TIED CARD OF 'pergolalaw10.DiskCuts'. -/
def diskCutsCard : Claim7 := { stood := { row := diskCutsRow, standIns := [], harness := (true, "5a395a62db76c44674d28cadd0ba0dfccc81aa921149fcab4b1ff6e2f60762b3"), looks := true }, kinds := [], alts := [], laidByText := true, laidKinds := [.handle], laidTests := true, laidLooks := .later }
def DiskCutsCardSaid : Prop := Claim7.holds Tryd.pinned (.plain (OpenSpec.ofChange diskCutsSpec)) diskCutsCard

/-- THE TIED CARD OF 'pergolalaw10.DiskPlays'. -/
def diskPlaysCard : Claim7 := { stood := { row := diskPlaysRow, standIns := [], harness := (true, "5a395a62db76c44674d28cadd0ba0dfccc81aa921149fcab4b1ff6e2f60762b3"), looks := true }, kinds := [], alts := [], laidByText := true, laidKinds := [.handle], laidTests := true, laidLooks := .later }
def DiskPlaysCardSaid : Prop := Claim7.holds Tryd.pinned (.plain (OpenSpec.ofChange diskPlaysSpec)) diskPlaysCard

/-- THE SECOND FORM's CARD OF 'pergolalaw10.DiskCuts'. -/
def diskCutsUptoCard : Claim7 := { stood := { row := diskCutsUptoRow, standIns := [], harness := (true, "5a395a62db76c44674d28cadd0ba0dfccc81aa921149fcab4b1ff6e2f60762b3"), looks := true }, kinds := [], alts := [], laidByText := true, laidKinds := [.handle], laidTests := true, laidLooks := .later }
def DiskCutsUptoCardSaid : Prop := Claim7.holds Tryd.pinned (.plain (OpenSpec.upto diskCutsSpec)) diskCutsUptoCard

/-- THE SECOND FORM's CARD OF 'pergolalaw10.DiskPlays'. -/
def diskPlaysUptoCard : Claim7 := { stood := { row := diskPlaysUptoRow, standIns := [], harness := (true, "5a395a62db76c44674d28cadd0ba0dfccc81aa921149fcab4b1ff6e2f60762b3"), looks := true }, kinds := [], alts := [], laidByText := true, laidKinds := [.handle], laidTests := true, laidLooks := .later }
def DiskPlaysUptoCardSaid : Prop := Claim7.holds Tryd.pinned (.plain (OpenSpec.upto diskPlaysSpec)) diskPlaysUptoCard
end Rows
end Go.Proofs.YthjjckpgjfjokaaDoor
