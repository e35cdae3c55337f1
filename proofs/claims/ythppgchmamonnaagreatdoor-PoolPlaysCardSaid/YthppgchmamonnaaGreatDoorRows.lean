/-
  NARROWER THAN 'FOR EVERY INPUT', by the rows' own cells (each row's printed sentence says how): PoolPins: laid · PoolOld: laid · PoolNothing: laid · PoolLast: laid · PoolFlushes: laid · PoolPlays: laid.
  DERIVED. THE GIVEN ROWS OF THIS SEAT. 6 by the template 'for every input the law returns true; each argument reads behind the call as it read before'; 0 by the template 'total and deterministic' (their statements: YthppgchmamonnaaGreatDoorTotals.lean).
  GIVEN WITH THE SEED: the statements are not yours to turn. If you find one false, say at which input.
  Laid BY PROGRAM, IN A SANDBOX (cutbox-rows.mjs): the forced cells as the released guide's own fill.sh prints them over the translation 713422d7cf65e847… (all of the seat's roots in one cut). By AI agents, Wed Nov 11 2026. No macro, syntax, notation, axiom, sorry.
-/
import Derived.Test.YthppgchmamonnaaGreatDoorChecked
import GoSem.Claim
import GoSem.ClaimJoined
import GoSem.ClaimMapViews
import Derived.JoinedTies
import Derived.KernelRfl
namespace Go.Proofs.YthppgchmamonnaaGreatDoor
/- THE CELL 'sum', in the pinned program and in every row, IS THE sha256 OF THE DUMP (.gsa) THAT YthppgchmamonnaaGreatDoorProg.lean LOADS. Nothing in Lean hashes anything: it is a label: what it is worth is what the hold of that sum in a sandbox is worth. -/
noncomputable def Tryz.pinned : Pinned := { name := "ythppgchmamonnaagreatdoor", sum := "713422d7cf65e8476d43c0f338d0985bfbd16c2ab8a2f3711c622578a1ed5ef4", checked := Tryz.checked }
namespace Rows
def none {H : Type} : Left H := { results := [], args := [] }

/- WHAT THE LISTED PACKAGE-LEVEL VARIABLES READ AS WHEN THE CALL BEGINS. Each datum BY PROGRAM (the guide's laid-datum.mjs) off the statement by which the dump's own 'gosem.cut.vars' lays the variable. In a bare row this is a premise. The card (YthppgchmamonnaaGreatDoorCards.lean) ties it to the program's text. -/
def laid_errors_errorType {H : Type} : DataW H := .iface "internal/reflectlite.rtype" (.agg [.ptr (.lit (.string [101, 114, 114, 111, 114]))])

/-- 'pergolalaw12.PoolPins': WHATEVER THE INPUT: true; the input reads as it did. -/
def poolPinsSpec : ChangeSpec := { name := "poolPins", fn := fun _ => fun
  | [d1, d2, d3] => { results := [.lit (.bool true)], args := [d1, d2, d3] }
  | _ => none }
def poolPinsRow : OpenClaim := { program := "ythppgchmamonnaagreatdoor", sum := "713422d7cf65e8476d43c0f338d0985bfbd16c2ab8a2f3711c622578a1ed5ef4", func := "pergola/pergolalaw12.PoolPins", spec := "poolPins", inPlace := ["internal/reflectlite.TypeOf", "internal/reflectlite.ValueOf", "(internal/reflectlite.Value).Type", "(internal/reflectlite.Value).IsNil", "(internal/reflectlite.Value).Elem", "(internal/reflectlite.Value).Set"], unfollowed := true, recurses := true, named := ["errors.errorType"], apart := false, laid := [("errors.errorType", laid_errors_errorType)] }
def PoolPinsSaid : Prop := poolPinsRow.holds Tryz.pinned (OpenSpec.ofChange poolPinsSpec)

/-- ITS FALSE NEIGHBOUR: 'it returns false'. Refute it at one input. -/
def poolPinsWrong : ChangeSpec := { name := "poolPins", fn := fun _ => fun
  | [d1, d2, d3] => { results := [.lit (.bool false)], args := [d1, d2, d3] }
  | _ => none }
def PoolPinsWrongFalsely : Prop := poolPinsRow.holds Tryz.pinned (OpenSpec.ofChange poolPinsWrong)

/-- 'pergolalaw12.PoolOld': WHATEVER THE INPUT: true; the input reads as it did. -/
def poolOldSpec : ChangeSpec := { name := "poolOld", fn := fun _ => fun
  | [d1, d2] => { results := [.lit (.bool true)], args := [d1, d2] }
  | _ => none }
def poolOldRow : OpenClaim := { program := "ythppgchmamonnaagreatdoor", sum := "713422d7cf65e8476d43c0f338d0985bfbd16c2ab8a2f3711c622578a1ed5ef4", func := "pergola/pergolalaw12.PoolOld", spec := "poolOld", inPlace := ["internal/reflectlite.TypeOf", "internal/reflectlite.ValueOf", "(internal/reflectlite.Value).Type", "(internal/reflectlite.Value).IsNil", "(internal/reflectlite.Value).Elem", "(internal/reflectlite.Value).Set"], unfollowed := true, recurses := true, named := ["errors.errorType"], apart := false, laid := [("errors.errorType", laid_errors_errorType)] }
def PoolOldSaid : Prop := poolOldRow.holds Tryz.pinned (OpenSpec.ofChange poolOldSpec)

/-- ITS FALSE NEIGHBOUR: 'it returns false'. Refute it at one input. -/
def poolOldWrong : ChangeSpec := { name := "poolOld", fn := fun _ => fun
  | [d1, d2] => { results := [.lit (.bool false)], args := [d1, d2] }
  | _ => none }
def PoolOldWrongFalsely : Prop := poolOldRow.holds Tryz.pinned (OpenSpec.ofChange poolOldWrong)

/-- 'pergolalaw12.PoolNothing': WHATEVER THE INPUT: true; the input reads as it did. -/
def poolNothingSpec : ChangeSpec := { name := "poolNothing", fn := fun _ => fun
  | [d] => { results := [.lit (.bool true)], args := [d] }
  | _ => none }
def poolNothingRow : OpenClaim := { program := "ythppgchmamonnaagreatdoor", sum := "713422d7cf65e8476d43c0f338d0985bfbd16c2ab8a2f3711c622578a1ed5ef4", func := "pergola/pergolalaw12.PoolNothing", spec := "poolNothing", inPlace := ["internal/reflectlite.TypeOf", "internal/reflectlite.ValueOf", "(internal/reflectlite.Value).Type", "(internal/reflectlite.Value).IsNil", "(internal/reflectlite.Value).Elem", "(internal/reflectlite.Value).Set"], unfollowed := true, recurses := true, named := ["errors.errorType"], apart := false, laid := [("errors.errorType", laid_errors_errorType)] }
def PoolNothingSaid : Prop := poolNothingRow.holds Tryz.pinned (OpenSpec.ofChange poolNothingSpec)

/-- ITS FALSE NEIGHBOUR: 'it returns false'. Refute it at one input. -/
def poolNothingWrong : ChangeSpec := { name := "poolNothing", fn := fun _ => fun
  | [d] => { results := [.lit (.bool false)], args := [d] }
  | _ => none }
def PoolNothingWrongFalsely : Prop := poolNothingRow.holds Tryz.pinned (OpenSpec.ofChange poolNothingWrong)

/-- 'pergolalaw12.PoolLast': WHATEVER THE INPUT: true; the input reads as it did. -/
def poolLastSpec : ChangeSpec := { name := "poolLast", fn := fun _ => fun
  | [d1, d2, d3] => { results := [.lit (.bool true)], args := [d1, d2, d3] }
  | _ => none }
def poolLastRow : OpenClaim := { program := "ythppgchmamonnaagreatdoor", sum := "713422d7cf65e8476d43c0f338d0985bfbd16c2ab8a2f3711c622578a1ed5ef4", func := "pergola/pergolalaw12.PoolLast", spec := "poolLast", inPlace := ["internal/reflectlite.TypeOf", "internal/reflectlite.ValueOf", "(internal/reflectlite.Value).Type", "(internal/reflectlite.Value).IsNil", "(internal/reflectlite.Value).Elem", "(internal/reflectlite.Value).Set"], unfollowed := true, recurses := true, named := ["errors.errorType"], apart := false, laid := [("errors.errorType", laid_errors_errorType)] }
def PoolLastSaid : Prop := poolLastRow.holds Tryz.pinned (OpenSpec.ofChange poolLastSpec)

/-- ITS FALSE NEIGHBOUR: 'it returns false'. Refute it at one input. -/
def poolLastWrong : ChangeSpec := { name := "poolLast", fn := fun _ => fun
  | [d1, d2, d3] => { results := [.lit (.bool false)], args := [d1, d2, d3] }
  | _ => none }
def PoolLastWrongFalsely : Prop := poolLastRow.holds Tryz.pinned (OpenSpec.ofChange poolLastWrong)

/-- 'pergolalaw12.PoolFlushes': WHATEVER THE INPUT: true; the input reads as it did. -/
def poolFlushesSpec : ChangeSpec := { name := "poolFlushes", fn := fun _ => fun
  | [d1, d2] => { results := [.lit (.bool true)], args := [d1, d2] }
  | _ => none }
def poolFlushesRow : OpenClaim := { program := "ythppgchmamonnaagreatdoor", sum := "713422d7cf65e8476d43c0f338d0985bfbd16c2ab8a2f3711c622578a1ed5ef4", func := "pergola/pergolalaw12.PoolFlushes", spec := "poolFlushes", inPlace := ["internal/reflectlite.TypeOf", "internal/reflectlite.ValueOf", "(internal/reflectlite.Value).Type", "(internal/reflectlite.Value).IsNil", "(internal/reflectlite.Value).Elem", "(internal/reflectlite.Value).Set"], unfollowed := true, recurses := true, named := ["errors.errorType"], apart := false, laid := [("errors.errorType", laid_errors_errorType)] }
def PoolFlushesSaid : Prop := poolFlushesRow.holds Tryz.pinned (OpenSpec.ofChange poolFlushesSpec)

/-- ITS FALSE NEIGHBOUR: 'it returns false'. Refute it at one input. -/
def poolFlushesWrong : ChangeSpec := { name := "poolFlushes", fn := fun _ => fun
  | [d1, d2] => { results := [.lit (.bool false)], args := [d1, d2] }
  | _ => none }
def PoolFlushesWrongFalsely : Prop := poolFlushesRow.holds Tryz.pinned (OpenSpec.ofChange poolFlushesWrong)

/-- 'pergolalaw12.PoolPlays': WHATEVER THE INPUT: true; the input reads as it did. -/
def poolPlaysSpec : ChangeSpec := { name := "poolPlays", fn := fun _ => fun
  | [d1, d2, d3, d4] => { results := [.lit (.bool true)], args := [d1, d2, d3, d4] }
  | _ => none }
def poolPlaysRow : OpenClaim := { program := "ythppgchmamonnaagreatdoor", sum := "713422d7cf65e8476d43c0f338d0985bfbd16c2ab8a2f3711c622578a1ed5ef4", func := "pergola/pergolalaw12.PoolPlays", spec := "poolPlays", inPlace := ["internal/reflectlite.TypeOf", "internal/reflectlite.ValueOf", "(internal/reflectlite.Value).Type", "(internal/reflectlite.Value).IsNil", "(internal/reflectlite.Value).Elem", "(internal/reflectlite.Value).Set"], unfollowed := true, recurses := true, named := ["errors.errorType"], apart := false, laid := [("errors.errorType", laid_errors_errorType)] }
def PoolPlaysSaid : Prop := poolPlaysRow.holds Tryz.pinned (OpenSpec.ofChange poolPlaysSpec)

/-- ITS FALSE NEIGHBOUR: 'it returns false'. Refute it at one input. -/
def poolPlaysWrong : ChangeSpec := { name := "poolPlays", fn := fun _ => fun
  | [d1, d2, d3, d4] => { results := [.lit (.bool false)], args := [d1, d2, d3, d4] }
  | _ => none }
def PoolPlaysWrongFalsely : Prop := poolPlaysRow.holds Tryz.pinned (OpenSpec.ofChange poolPlaysWrong)

/- THE SECOND FORM. 'bulk': how many values and letters a reading holds, each counted each time it is reached (what is shared counts as often as it is met; a slice's spare places count too). A statement '..UptoSaid' is the law's where the arguments, and the package variables that the reading takes, are together of bulk at most 1048576: NARROWER than '..Said'. Prove '..Said' where nothing that the law and all that it calls make is longer than what came in: it says more and counts as full. Else prove '..UptoSaid'. A law counts once. -/
mutual
def uptoBulk {H : Type} : DataW H → Nat
  | .lit (.string bytes) => bytes.length + 1
  | .lit _ => 1
  | .nil => 1
  | .ptr d => uptoBulk d + 1
  | .slice elems spare => uptoBulkAll elems + uptoBulkAll spare + 1
  | .agg parts => uptoBulkAll parts + 1
  | .iface _ d => uptoBulk d + 1
  | .map entries => uptoBulkEntries entries + 1
  | .held _ => 1
def uptoBulkAll {H : Type} : List (DataW H) → Nat
  | [] => 0
  | d :: r => uptoBulk d + uptoBulkAll r
def uptoBulkEntries {H : Type} : List (Lit × DataW H) → Nat
  | [] => 0
  | x :: r => uptoBulkEntry x + uptoBulkEntries r
def uptoBulkEntry {H : Type} : Lit × DataW H → Nat
  | (.string bytes, d) => bytes.length + uptoBulk d + 1
  | (_, d) => uptoBulk d + 1
 end
def uptoSmall : (H : Type) → List (DataW H) → Bool := fun _ ds => decide (uptoBulkAll ds ≤ 1048576)
def OpenSpec.upto (s : _root_.Go.ChangeSpec) : _root_.Go.OpenSpec := { _root_.Go.OpenSpec.ofChange s with cond := some uptoSmall }

/-- 'pergolalaw12.PoolPins', WHERE WHAT IT READS IS OF BULK AT MOST 1048576: true; the input reads as it did. -/
def poolPinsUptoRow : OpenClaim := { program := "ythppgchmamonnaagreatdoor", sum := "713422d7cf65e8476d43c0f338d0985bfbd16c2ab8a2f3711c622578a1ed5ef4", func := "pergola/pergolalaw12.PoolPins", spec := "poolPins", inPlace := ["internal/reflectlite.TypeOf", "internal/reflectlite.ValueOf", "(internal/reflectlite.Value).Type", "(internal/reflectlite.Value).IsNil", "(internal/reflectlite.Value).Elem", "(internal/reflectlite.Value).Set"], unfollowed := true, recurses := true, named := ["errors.errorType"], apart := false, laid := [("errors.errorType", laid_errors_errorType)], narrowed := true }
def PoolPinsUptoSaid : Prop := poolPinsUptoRow.holds Tryz.pinned (OpenSpec.upto poolPinsSpec)

/-- 'pergolalaw12.PoolOld', WHERE WHAT IT READS IS OF BULK AT MOST 1048576: true; the input reads as it did. -/
def poolOldUptoRow : OpenClaim := { program := "ythppgchmamonnaagreatdoor", sum := "713422d7cf65e8476d43c0f338d0985bfbd16c2ab8a2f3711c622578a1ed5ef4", func := "pergola/pergolalaw12.PoolOld", spec := "poolOld", inPlace := ["internal/reflectlite.TypeOf", "internal/reflectlite.ValueOf", "(internal/reflectlite.Value).Type", "(internal/reflectlite.Value).IsNil", "(internal/reflectlite.Value).Elem", "(internal/reflectlite.Value).Set"], unfollowed := true, recurses := true, named := ["errors.errorType"], apart := false, laid := [("errors.errorType", laid_errors_errorType)], narrowed := true }
def PoolOldUptoSaid : Prop := poolOldUptoRow.holds Tryz.pinned (OpenSpec.upto poolOldSpec)

/-- 'pergolalaw12.PoolNothing', WHERE WHAT IT READS IS OF BULK AT MOST 1048576: true; the input reads as it did. -/
def poolNothingUptoRow : OpenClaim := { program := "ythppgchmamonnaagreatdoor", sum := "713422d7cf65e8476d43c0f338d0985bfbd16c2ab8a2f3711c622578a1ed5ef4", func := "pergola/pergolalaw12.PoolNothing", spec := "poolNothing", inPlace := ["internal/reflectlite.TypeOf", "internal/reflectlite.ValueOf", "(internal/reflectlite.Value).Type", "(internal/reflectlite.Value).IsNil", "(internal/reflectlite.Value).Elem", "(internal/reflectlite.Value).Set"], unfollowed := true, recurses := true, named := ["errors.errorType"], apart := false, laid := [("errors.errorType", laid_errors_errorType)], narrowed := true }
def PoolNothingUptoSaid : Prop := poolNothingUptoRow.holds Tryz.pinned (OpenSpec.upto poolNothingSpec)

/-- 'pergolalaw12.PoolLast', WHERE WHAT IT READS IS OF BULK AT MOST 1048576: true; the input reads as it did. -/
def poolLastUptoRow : OpenClaim := { program := "ythppgchmamonnaagreatdoor", sum := "713422d7cf65e8476d43c0f338d0985bfbd16c2ab8a2f3711c622578a1ed5ef4", func := "pergola/pergolalaw12.PoolLast", spec := "poolLast", inPlace := ["internal/reflectlite.TypeOf", "internal/reflectlite.ValueOf", "(internal/reflectlite.Value).Type", "(internal/reflectlite.Value).IsNil", "(internal/reflectlite.Value).Elem", "(internal/reflectlite.Value).Set"], unfollowed := true, recurses := true, named := ["errors.errorType"], apart := false, laid := [("errors.errorType", laid_errors_errorType)], narrowed := true }
def PoolLastUptoSaid : Prop := poolLastUptoRow.holds Tryz.pinned (OpenSpec.upto poolLastSpec)

/-- 'pergolalaw12.PoolFlushes', WHERE WHAT IT READS IS OF BULK AT MOST 1048576: true; the input reads as it did. -/
def poolFlushesUptoRow : OpenClaim := { program := "ythppgchmamonnaagreatdoor", sum := "713422d7cf65e8476d43c0f338d0985bfbd16c2ab8a2f3711c622578a1ed5ef4", func := "pergola/pergolalaw12.PoolFlushes", spec := "poolFlushes", inPlace := ["internal/reflectlite.TypeOf", "internal/reflectlite.ValueOf", "(internal/reflectlite.Value).Type", "(internal/reflectlite.Value).IsNil", "(internal/reflectlite.Value).Elem", "(internal/reflectlite.Value).Set"], unfollowed := true, recurses := true, named := ["errors.errorType"], apart := false, laid := [("errors.errorType", laid_errors_errorType)], narrowed := true }
def PoolFlushesUptoSaid : Prop := poolFlushesUptoRow.holds Tryz.pinned (OpenSpec.upto poolFlushesSpec)

/-- 'pergolalaw12.PoolPlays', WHERE WHAT IT READS IS OF BULK AT MOST 1048576: true; the input reads as it did. -/
def poolPlaysUptoRow : OpenClaim := { program := "ythppgchmamonnaagreatdoor", sum := "713422d7cf65e8476d43c0f338d0985bfbd16c2ab8a2f3711c622578a1ed5ef4", func := "pergola/pergolalaw12.PoolPlays", spec := "poolPlays", inPlace := ["internal/reflectlite.TypeOf", "internal/reflectlite.ValueOf", "(internal/reflectlite.Value).Type", "(internal/reflectlite.Value).IsNil", "(internal/reflectlite.Value).Elem", "(internal/reflectlite.Value).Set"], unfollowed := true, recurses := true, named := ["errors.errorType"], apart := false, laid := [("errors.errorType", laid_errors_errorType)], narrowed := true }
def PoolPlaysUptoSaid : Prop := poolPlaysUptoRow.holds Tryz.pinned (OpenSpec.upto poolPlaysSpec)

end Rows
end Go.Proofs.YthppgchmamonnaaGreatDoor
