/-
  NARROWER THAN 'FOR EVERY INPUT', by the rows' own cells (each row's printed sentence says how): WalPlays: laid · WalTurns: laid · WalNothing: laid · WalApart: laid · WalOpens: laid · WalKeeps: laid.
  DERIVED. THE GIVEN ROWS OF THIS SEAT. 6 by the template 'for every input the law returns true; each argument reads behind the call as it read before'; 0 by the template 'total and deterministic' (their statements: YtcclbaphdblcfaaDoorTotals.lean).
  GIVEN WITH THE SEED: the statements are not yours to turn. If you find one false, say at which input.
  Laid BY PROGRAM, IN A SANDBOX (cutbox-rows.mjs): the forced cells as the released guide's own fill.sh prints them over the translation f042faf21993d69a… (all of the seat's roots in one cut). By AI agents, Wed Nov 11 2026. No macro, syntax, notation, axiom, sorry.
-/
import Derived.Test.YtcclbaphdblcfaaDoorChecked
import GoSem.Claim
import GoSem.ClaimJoined
import GoSem.ClaimMapViews
import Derived.JoinedTies
import Derived.KernelRfl
namespace Go.Proofs.YtcclbaphdblcfaaDoor
/- THE CELL 'sum', in the pinned program and in every row, IS THE sha256 OF THE DUMP (.gsa) THAT YtcclbaphdblcfaaDoorProg.lean LOADS. Nothing in Lean hashes anything: it is a label: what it is worth is what the hold of that sum in a sandbox is worth. -/
noncomputable def Tryd.pinned : Pinned := { name := "ytcclbaphdblcfaadoor", sum := "f042faf21993d69a4c9db0e8d6f1f78c3fa3b3b152e000f205b9ae303d0fef2f", checked := Tryd.checked }
namespace Rows
def none {H : Type} : Left H := { results := [], args := [] }

/- WHAT THE LISTED PACKAGE-LEVEL VARIABLES READ AS WHEN THE CALL BEGINS. Each datum BY PROGRAM (the guide's laid-datum.mjs) off the statement by which the dump's own 'gosem.cut.vars' lays the variable. In a bare row this is a premise. The card (YtcclbaphdblcfaaDoorCards.lean) ties it to the program's text. -/
def laid_errors_errorType {H : Type} : DataW H := .iface "internal/reflectlite.rtype" (.agg [.ptr (.lit (.string [101, 114, 114, 111, 114]))])

/-- 'pergolalaw13.WalPlays': WHATEVER THE INPUT: true; the input reads as it did. -/
def walPlaysSpec : ChangeSpec := { name := "walPlays", fn := fun _ => fun
  | [d1, d2, d3] => { results := [.lit (.bool true)], args := [d1, d2, d3] }
  | _ => none }
def walPlaysRow : OpenClaim := { program := "ytcclbaphdblcfaadoor", sum := "f042faf21993d69a4c9db0e8d6f1f78c3fa3b3b152e000f205b9ae303d0fef2f", func := "pergola/pergolalaw13.WalPlays", spec := "walPlays", inPlace := ["internal/reflectlite.TypeOf", "internal/reflectlite.ValueOf", "(internal/reflectlite.Value).Type", "(internal/reflectlite.Value).IsNil", "(internal/reflectlite.Value).Elem", "(internal/reflectlite.Value).Set"], unfollowed := true, recurses := true, named := ["errors.errorType"], apart := false, laid := [("errors.errorType", laid_errors_errorType)] }
def WalPlaysSaid : Prop := walPlaysRow.holds Tryd.pinned (OpenSpec.ofChange walPlaysSpec)

/-- ITS FALSE NEIGHBOUR: 'it returns false'. Refute it at one input. -/
def walPlaysWrong : ChangeSpec := { name := "walPlays", fn := fun _ => fun
  | [d1, d2, d3] => { results := [.lit (.bool false)], args := [d1, d2, d3] }
  | _ => none }
def WalPlaysWrongFalsely : Prop := walPlaysRow.holds Tryd.pinned (OpenSpec.ofChange walPlaysWrong)

/-- 'pergolalaw13.WalTurns': WHATEVER THE INPUT: true; the input reads as it did. -/
def walTurnsSpec : ChangeSpec := { name := "walTurns", fn := fun _ => fun
  | [d1, d2, d3] => { results := [.lit (.bool true)], args := [d1, d2, d3] }
  | _ => none }
def walTurnsRow : OpenClaim := { program := "ytcclbaphdblcfaadoor", sum := "f042faf21993d69a4c9db0e8d6f1f78c3fa3b3b152e000f205b9ae303d0fef2f", func := "pergola/pergolalaw13.WalTurns", spec := "walTurns", inPlace := ["internal/reflectlite.TypeOf", "internal/reflectlite.ValueOf", "(internal/reflectlite.Value).Type", "(internal/reflectlite.Value).IsNil", "(internal/reflectlite.Value).Elem", "(internal/reflectlite.Value).Set"], unfollowed := true, recurses := true, named := ["errors.errorType"], apart := false, laid := [("errors.errorType", laid_errors_errorType)] }
def WalTurnsSaid : Prop := walTurnsRow.holds Tryd.pinned (OpenSpec.ofChange walTurnsSpec)

/-- ITS FALSE NEIGHBOUR: 'it returns false'. Refute it at one input. -/
def walTurnsWrong : ChangeSpec := { name := "walTurns", fn := fun _ => fun
  | [d1, d2, d3] => { results := [.lit (.bool false)], args := [d1, d2, d3] }
  | _ => none }
def WalTurnsWrongFalsely : Prop := walTurnsRow.holds Tryd.pinned (OpenSpec.ofChange walTurnsWrong)

/-- 'pergolalaw13.WalNothing': WHATEVER THE INPUT: true; the input reads as it did. -/
def walNothingSpec : ChangeSpec := { name := "walNothing", fn := fun _ => fun
  | [d1, d2, d3] => { results := [.lit (.bool true)], args := [d1, d2, d3] }
  | _ => none }
def walNothingRow : OpenClaim := { program := "ytcclbaphdblcfaadoor", sum := "f042faf21993d69a4c9db0e8d6f1f78c3fa3b3b152e000f205b9ae303d0fef2f", func := "pergola/pergolalaw13.WalNothing", spec := "walNothing", inPlace := ["internal/reflectlite.TypeOf", "internal/reflectlite.ValueOf", "(internal/reflectlite.Value).Type", "(internal/reflectlite.Value).IsNil", "(internal/reflectlite.Value).Elem", "(internal/reflectlite.Value).Set"], unfollowed := true, recurses := true, named := ["errors.errorType"], apart := false, laid := [("errors.errorType", laid_errors_errorType)] }
def WalNothingSaid : Prop := walNothingRow.holds Tryd.pinned (OpenSpec.ofChange walNothingSpec)

/-- ITS FALSE NEIGHBOUR: 'it returns false'. Refute it at one input. -/
def walNothingWrong : ChangeSpec := { name := "walNothing", fn := fun _ => fun
  | [d1, d2, d3] => { results := [.lit (.bool false)], args := [d1, d2, d3] }
  | _ => none }
def WalNothingWrongFalsely : Prop := walNothingRow.holds Tryd.pinned (OpenSpec.ofChange walNothingWrong)

/-- 'pergolalaw13.WalApart': WHATEVER THE INPUT: true; the input reads as it did. -/
def walApartSpec : ChangeSpec := { name := "walApart", fn := fun _ => fun
  | [d1, d2] => { results := [.lit (.bool true)], args := [d1, d2] }
  | _ => none }
def walApartRow : OpenClaim := { program := "ytcclbaphdblcfaadoor", sum := "f042faf21993d69a4c9db0e8d6f1f78c3fa3b3b152e000f205b9ae303d0fef2f", func := "pergola/pergolalaw13.WalApart", spec := "walApart", inPlace := ["internal/reflectlite.TypeOf", "internal/reflectlite.ValueOf", "(internal/reflectlite.Value).Type", "(internal/reflectlite.Value).IsNil", "(internal/reflectlite.Value).Elem", "(internal/reflectlite.Value).Set"], unfollowed := true, recurses := true, named := ["errors.errorType"], apart := false, laid := [("errors.errorType", laid_errors_errorType)] }
def WalApartSaid : Prop := walApartRow.holds Tryd.pinned (OpenSpec.ofChange walApartSpec)

/-- ITS FALSE NEIGHBOUR: 'it returns false'. Refute it at one input. -/
def walApartWrong : ChangeSpec := { name := "walApart", fn := fun _ => fun
  | [d1, d2] => { results := [.lit (.bool false)], args := [d1, d2] }
  | _ => none }
def WalApartWrongFalsely : Prop := walApartRow.holds Tryd.pinned (OpenSpec.ofChange walApartWrong)

/-- 'pergolalaw13.WalOpens': WHATEVER THE INPUT: true; the input reads as it did. -/
def walOpensSpec : ChangeSpec := { name := "walOpens", fn := fun _ => fun
  | [d1, d2, d3] => { results := [.lit (.bool true)], args := [d1, d2, d3] }
  | _ => none }
def walOpensRow : OpenClaim := { program := "ytcclbaphdblcfaadoor", sum := "f042faf21993d69a4c9db0e8d6f1f78c3fa3b3b152e000f205b9ae303d0fef2f", func := "pergola/pergolalaw13.WalOpens", spec := "walOpens", inPlace := ["internal/reflectlite.TypeOf", "internal/reflectlite.ValueOf", "(internal/reflectlite.Value).Type", "(internal/reflectlite.Value).IsNil", "(internal/reflectlite.Value).Elem", "(internal/reflectlite.Value).Set"], unfollowed := true, recurses := true, named := ["errors.errorType"], apart := false, laid := [("errors.errorType", laid_errors_errorType)] }
def WalOpensSaid : Prop := walOpensRow.holds Tryd.pinned (OpenSpec.ofChange walOpensSpec)

/-- ITS FALSE NEIGHBOUR: 'it returns false'. Refute it at one input. -/
def walOpensWrong : ChangeSpec := { name := "walOpens", fn := fun _ => fun
  | [d1, d2, d3] => { results := [.lit (.bool false)], args := [d1, d2, d3] }
  | _ => none }
def WalOpensWrongFalsely : Prop := walOpensRow.holds Tryd.pinned (OpenSpec.ofChange walOpensWrong)

/-- 'pergolalaw13.WalKeeps': WHATEVER THE INPUT: true; the input reads as it did. -/
def walKeepsSpec : ChangeSpec := { name := "walKeeps", fn := fun _ => fun
  | [d1, d2] => { results := [.lit (.bool true)], args := [d1, d2] }
  | _ => none }
def walKeepsRow : OpenClaim := { program := "ytcclbaphdblcfaadoor", sum := "f042faf21993d69a4c9db0e8d6f1f78c3fa3b3b152e000f205b9ae303d0fef2f", func := "pergola/pergolalaw13.WalKeeps", spec := "walKeeps", inPlace := ["internal/reflectlite.TypeOf", "internal/reflectlite.ValueOf", "(internal/reflectlite.Value).Type", "(internal/reflectlite.Value).IsNil", "(internal/reflectlite.Value).Elem", "(internal/reflectlite.Value).Set"], unfollowed := true, recurses := true, named := ["errors.errorType"], apart := false, laid := [("errors.errorType", laid_errors_errorType)] }
def WalKeepsSaid : Prop := walKeepsRow.holds Tryd.pinned (OpenSpec.ofChange walKeepsSpec)

/-- ITS FALSE NEIGHBOUR: 'it returns false'. Refute it at one input. -/
def walKeepsWrong : ChangeSpec := { name := "walKeeps", fn := fun _ => fun
  | [d1, d2] => { results := [.lit (.bool false)], args := [d1, d2] }
  | _ => none }
def WalKeepsWrongFalsely : Prop := walKeepsRow.holds Tryd.pinned (OpenSpec.ofChange walKeepsWrong)

/- THE SECOND FORM. 'bulk': how many values and letters a reading holds, each counted each time it is reached (what is shared counts as often as it is met; a slice's spare places count too). A statement '..UptoSaid' is the law's where the arguments, and the package variables that the reading takes, are together of bulk at most 1048576: NARROWER than '..Said'. Prove '..Said' where nothing that the law and all that it calls make is longer than what came in: it says more and counts as full. Else prove '..UptoSaid'. A law counts once. -/
mutual
def uptoBulk {H : Type} : DataW H → Nat
  | .lit (.string bytes) => bytes.length + 1
  | .lit _ => 1
  | .nil => 1
  | .ptr d => uptoBulk d + 1
  | .slice elems spare => uptoBulkAll elems + uptoBulkAll spare + 1
  | .agg parts => uptoBulkAll parts + 1
  | .iface _ d => uptoBulk d + 1
  | .map entries => uptoBulkEntries entries + 1
  | .held _ => 1
def uptoBulkAll {H : Type} : List (DataW H) → Nat
  | [] => 0
  | d :: r => uptoBulk d + uptoBulkAll r
def uptoBulkEntries {H : Type} : List (Lit × DataW H) → Nat
  | [] => 0
  | x :: r => uptoBulkEntry x + uptoBulkEntries r
def uptoBulkEntry {H : Type} : Lit × DataW H → Nat
  | (.string bytes, d) => bytes.length + uptoBulk d + 1
  | (_, d) => uptoBulk d + 1
 end
def uptoSmall : (H : Type) → List (DataW H) → Bool := fun _ ds => decide (uptoBulkAll ds ≤ 1048576)
def OpenSpec.upto (s : _root_.Go.ChangeSpec) : _root_.Go.OpenSpec := { _root_.Go.OpenSpec.ofChange s with cond := some uptoSmall }

/-- 'pergolalaw13.WalPlays', WHERE WHAT IT READS IS OF BULK AT MOST 1048576: true; the input reads as it did. -/
def walPlaysUptoRow : OpenClaim := { program := "ytcclbaphdblcfaadoor", sum := "f042faf21993d69a4c9db0e8d6f1f78c3fa3b3b152e000f205b9ae303d0fef2f", func := "pergola/pergolalaw13.WalPlays", spec := "walPlays", inPlace := ["internal/reflectlite.TypeOf", "internal/reflectlite.ValueOf", "(internal/reflectlite.Value).Type", "(internal/reflectlite.Value).IsNil", "(internal/reflectlite.Value).Elem", "(internal/reflectlite.Value).Set"], unfollowed := true, recurses := true, named := ["errors.errorType"], apart := false, laid := [("errors.errorType", laid_errors_errorType)], narrowed := true }
def WalPlaysUptoSaid : Prop := walPlaysUptoRow.holds Tryd.pinned (OpenSpec.upto walPlaysSpec)

/-- 'pergolalaw13.WalTurns', WHERE WHAT IT READS IS OF BULK AT MOST 1048576: true; the input reads as it did. -/
def walTurnsUptoRow : OpenClaim := { program := "ytcclbaphdblcfaadoor", sum := "f042faf21993d69a4c9db0e8d6f1f78c3fa3b3b152e000f205b9ae303d0fef2f", func := "pergola/pergolalaw13.WalTurns", spec := "walTurns", inPlace := ["internal/reflectlite.TypeOf", "internal/reflectlite.ValueOf", "(internal/reflectlite.Value).Type", "(internal/reflectlite.Value).IsNil", "(internal/reflectlite.Value).Elem", "(internal/reflectlite.Value).Set"], unfollowed := true, recurses := true, named := ["errors.errorType"], apart := false, laid := [("errors.errorType", laid_errors_errorType)], narrowed := true }
def WalTurnsUptoSaid : Prop := walTurnsUptoRow.holds Tryd.pinned (OpenSpec.upto walTurnsSpec)

/-- 'pergolalaw13.WalNothing', WHERE WHAT IT READS IS OF BULK AT MOST 1048576: true; the input reads as it did. -/
def walNothingUptoRow : OpenClaim := { program := "ytcclbaphdblcfaadoor", sum := "f042faf21993d69a4c9db0e8d6f1f78c3fa3b3b152e000f205b9ae303d0fef2f", func := "pergola/pergolalaw13.WalNothing", spec := "walNothing", inPlace := ["internal/reflectlite.TypeOf", "internal/reflectlite.ValueOf", "(internal/reflectlite.Value).Type", "(internal/reflectlite.Value).IsNil", "(internal/reflectlite.Value).Elem", "(internal/reflectlite.Value).Set"], unfollowed := true, recurses := true, named := ["errors.errorType"], apart := false, laid := [("errors.errorType", laid_errors_errorType)], narrowed := true }
def WalNothingUptoSaid : Prop := walNothingUptoRow.holds Tryd.pinned (OpenSpec.upto walNothingSpec)

/-- 'pergolalaw13.WalApart', WHERE WHAT IT READS IS OF BULK AT MOST 1048576: true; the input reads as it did. -/
def walApartUptoRow : OpenClaim := { program := "ytcclbaphdblcfaadoor", sum := "f042faf21993d69a4c9db0e8d6f1f78c3fa3b3b152e000f205b9ae303d0fef2f", func := "pergola/pergolalaw13.WalApart", spec := "walApart", inPlace := ["internal/reflectlite.TypeOf", "internal/reflectlite.ValueOf", "(internal/reflectlite.Value).Type", "(internal/reflectlite.Value).IsNil", "(internal/reflectlite.Value).Elem", "(internal/reflectlite.Value).Set"], unfollowed := true, recurses := true, named := ["errors.errorType"], apart := false, laid := [("errors.errorType", laid_errors_errorType)], narrowed := true }
def WalApartUptoSaid : Prop := walApartUptoRow.holds Tryd.pinned (OpenSpec.upto walApartSpec)

/-- 'pergolalaw13.WalOpens', WHERE WHAT IT READS IS OF BULK AT MOST 1048576: true; the input reads as it did. -/
def walOpensUptoRow : OpenClaim := { program := "ytcclbaphdblcfaadoor", sum := "f042faf21993d69a4c9db0e8d6f1f78c3fa3b3b152e000f205b9ae303d0fef2f", func := "pergola/pergolalaw13.WalOpens", spec := "walOpens", inPlace := ["internal/reflectlite.TypeOf", "internal/reflectlite.ValueOf", "(internal/reflectlite.Value).Type", "(internal/reflectlite.Value).IsNil", "(internal/reflectlite.Value).Elem", "(internal/reflectlite.Value).Set"], unfollowed := true, recurses := true, named := ["errors.errorType"], apart := false, laid := [("errors.errorType", laid_errors_errorType)], narrowed := true }
def WalOpensUptoSaid : Prop := walOpensUptoRow.holds Tryd.pinned (OpenSpec.upto walOpensSpec)

/-- 'pergolalaw13.WalKeeps', WHERE WHAT IT READS IS OF BULK AT MOST 1048576: true; the input reads as it did. -/
def walKeepsUptoRow : OpenClaim := { program := "ytcclbaphdblcfaadoor", sum := "f042faf21993d69a4c9db0e8d6f1f78c3fa3b3b152e000f205b9ae303d0fef2f", func := "pergola/pergolalaw13.WalKeeps", spec := "walKeeps", inPlace := ["internal/reflectlite.TypeOf", "internal/reflectlite.ValueOf", "(internal/reflectlite.Value).Type", "(internal/reflectlite.Value).IsNil", "(internal/reflectlite.Value).Elem", "(internal/reflectlite.Value).Set"], unfollowed := true, recurses := true, named := ["errors.errorType"], apart := false, laid := [("errors.errorType", laid_errors_errorType)], narrowed := true }
def WalKeepsUptoSaid : Prop := walKeepsUptoRow.holds Tryd.pinned (OpenSpec.upto walKeepsSpec)

end Rows
end Go.Proofs.YtcclbaphdblcfaaDoor
