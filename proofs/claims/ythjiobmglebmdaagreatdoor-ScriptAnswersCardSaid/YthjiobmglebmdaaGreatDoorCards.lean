/-
  DERIVED. GIVEN WITH THE SEED: THE CARDS: each row of YthjiobmglebmdaaGreatDoorRows.lean that lists a variable, with what it lists TIED to the program's text (the seventh form; the later family's looks); each row that meets fmt, with fmt's text TOLD by the authors' own Lean function (tested against real Go, not proved from fmt's source: count such statements apart). THE CARD IS WHAT COUNTS. Prove the row's statement (the work); the ties are given (YthjiobmglebmdaaGreatDoorTie.lean); close each card by the builder's one call (the guide's Derived/Test/ToyasCard.lean, 'card_holds'). Laid BY PROGRAM, IN A SANDBOX (cutbox-door.mjs). By AI agents, Wed Nov 11 2026. No macro, syntax, notation, axiom, sorry.
-/
import Derived.Test.YthjiobmglebmdaaGreatDoorRows
import GoSem.ClaimSeven
namespace Go.Proofs.YthjiobmglebmdaaGreatDoor
namespace Rows

/-- THE TIED CARD OF 'pergolalaw29.ScriptAnswers'. -/
def scriptAnswersCard : Claim7 := { stood := { row := scriptAnswersRow, standIns := [], harness := (true, "fc2458700452475271c065580bf19c075da9ad2392dfe6b1ebfc2bb72f240f0a"), looks := true }, kinds := [], alts := [], laidByText := true, laidKinds := [.data, .data, .data, .data, .sentinel, .sentinel, .pinned], laidTests := true, laidLooks := .later }
def ScriptAnswersCardSaid : Prop := Claim7.holds Tryz.pinned (.plain (OpenSpec.ofChange scriptAnswersSpec)) scriptAnswersCard

/-- THE TIED CARD OF 'pergolalaw29.ScriptApart'. -/
def scriptApartCard : Claim7 := { stood := { row := scriptApartRow, standIns := [], harness := (true, "fc2458700452475271c065580bf19c075da9ad2392dfe6b1ebfc2bb72f240f0a"), looks := true }, kinds := [], alts := [], laidByText := true, laidKinds := [.data, .data, .data, .data, .sentinel, .sentinel, .pinned], laidTests := true, laidLooks := .later }
def ScriptApartCardSaid : Prop := Claim7.holds Tryz.pinned (.plain (OpenSpec.ofChange scriptApartSpec)) scriptApartCard

/-- THE TIED CARD OF 'pergolalaw29.ScriptBack'. -/
def scriptBackCard : Claim7 := { stood := { row := scriptBackRow, standIns := [], harness := (true, "fc2458700452475271c065580bf19c075da9ad2392dfe6b1ebfc2bb72f240f0a"), looks := true }, kinds := [], alts := [], laidByText := true, laidKinds := [.data, .data, .data, .data, .sentinel, .sentinel, .pinned], laidTests := true, laidLooks := .later }
def ScriptBackCardSaid : Prop := Claim7.holds Tryz.pinned (.plain (OpenSpec.ofChange scriptBackSpec)) scriptBackCard

/-- THE TIED CARD OF 'pergolalaw29.ScriptObjects'. -/
def scriptObjectsCard : Claim7 := { stood := { row := scriptObjectsRow, standIns := [], harness := (true, "fc2458700452475271c065580bf19c075da9ad2392dfe6b1ebfc2bb72f240f0a"), looks := true }, kinds := [], alts := [], laidByText := true, laidKinds := [.data, .data, .data, .data, .handle, .sentinel, .sentinel, .pinned], laidTests := true, laidLooks := .later }
def ScriptObjectsCardSaid : Prop := Claim7.holds Tryz.pinned (.plain (OpenSpec.ofChange scriptObjectsSpec)) scriptObjectsCard

/-- THE TIED CARD OF 'pergolalaw29.ScriptQueries'. -/
def scriptQueriesCard : Claim7 := { stood := { row := scriptQueriesRow, standIns := [], harness := (true, "fc2458700452475271c065580bf19c075da9ad2392dfe6b1ebfc2bb72f240f0a"), looks := true }, kinds := [], alts := [], laidByText := true, laidKinds := [.data, .data, .data, .data, .handle, .sentinel, .sentinel, .pinned], laidTests := true, laidLooks := .later }
def ScriptQueriesCardSaid : Prop := Claim7.holds Tryz.pinned (.plain (OpenSpec.ofChange scriptQueriesSpec)) scriptQueriesCard

/-- THE SECOND FORM's CARD OF 'pergolalaw29.ScriptAnswers'. -/
def scriptAnswersUptoCard : Claim7 := { stood := { row := scriptAnswersUptoRow, standIns := [], harness := (true, "fc2458700452475271c065580bf19c075da9ad2392dfe6b1ebfc2bb72f240f0a"), looks := true }, kinds := [], alts := [], laidByText := true, laidKinds := [.data, .data, .data, .data, .sentinel, .sentinel, .pinned], laidTests := true, laidLooks := .later }
def ScriptAnswersUptoCardSaid : Prop := Claim7.holds Tryz.pinned (.plain (OpenSpec.upto scriptAnswersSpec)) scriptAnswersUptoCard

/-- THE SECOND FORM's CARD OF 'pergolalaw29.ScriptApart'. -/
def scriptApartUptoCard : Claim7 := { stood := { row := scriptApartUptoRow, standIns := [], harness := (true, "fc2458700452475271c065580bf19c075da9ad2392dfe6b1ebfc2bb72f240f0a"), looks := true }, kinds := [], alts := [], laidByText := true, laidKinds := [.data, .data, .data, .data, .sentinel, .sentinel, .pinned], laidTests := true, laidLooks := .later }
def ScriptApartUptoCardSaid : Prop := Claim7.holds Tryz.pinned (.plain (OpenSpec.upto scriptApartSpec)) scriptApartUptoCard

/-- THE SECOND FORM's CARD OF 'pergolalaw29.ScriptBack'. -/
def scriptBackUptoCard : Claim7 := { stood := { row := scriptBackUptoRow, standIns := [], harness := (true, "fc2458700452475271c065580bf19c075da9ad2392dfe6b1ebfc2bb72f240f0a"), looks := true }, kinds := [], alts := [], laidByText := true, laidKinds := [.data, .data, .data, .data, .sentinel, .sentinel, .pinned], laidTests := true, laidLooks := .later }
def ScriptBackUptoCardSaid : Prop := Claim7.holds Tryz.pinned (.plain (OpenSpec.upto scriptBackSpec)) scriptBackUptoCard

/-- THE SECOND FORM's CARD OF 'pergolalaw29.ScriptObjects'. -/
def scriptObjectsUptoCard : Claim7 := { stood := { row := scriptObjectsUptoRow, standIns := [], harness := (true, "fc2458700452475271c065580bf19c075da9ad2392dfe6b1ebfc2bb72f240f0a"), looks := true }, kinds := [], alts := [], laidByText := true, laidKinds := [.data, .data, .data, .data, .handle, .sentinel, .sentinel, .pinned], laidTests := true, laidLooks := .later }
def ScriptObjectsUptoCardSaid : Prop := Claim7.holds Tryz.pinned (.plain (OpenSpec.upto scriptObjectsSpec)) scriptObjectsUptoCard

/-- THE SECOND FORM's CARD OF 'pergolalaw29.ScriptQueries'. -/
def scriptQueriesUptoCard : Claim7 := { stood := { row := scriptQueriesUptoRow, standIns := [], harness := (true, "fc2458700452475271c065580bf19c075da9ad2392dfe6b1ebfc2bb72f240f0a"), looks := true }, kinds := [], alts := [], laidByText := true, laidKinds := [.data, .data, .data, .data, .handle, .sentinel, .sentinel, .pinned], laidTests := true, laidLooks := .later }
def ScriptQueriesUptoCardSaid : Prop := Claim7.holds Tryz.pinned (.plain (OpenSpec.upto scriptQueriesSpec)) scriptQueriesUptoCard
end Rows
end Go.Proofs.YthjiobmglebmdaaGreatDoor
