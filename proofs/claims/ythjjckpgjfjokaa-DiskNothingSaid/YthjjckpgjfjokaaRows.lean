/-
  No cell of these rows narrows 'for every input' (looked for: loops, veiled, ifaces, maps, wideKeys, modest, calm, conditions, laid).
  DERIVED. THE GIVEN ROWS OF THIS SEAT. 4 by the template 'for every input the law returns true; each argument reads behind the call as it read before'; 0 by the template 'total and deterministic' (their statements: YthjjckpgjfjokaaTotals.lean).
  GIVEN WITH THE SEED: the statements are not yours to turn. If you find one false, say at which input.
  Laid BY PROGRAM, IN A SANDBOX (cutbox-rows.mjs): the forced cells as the released guide's own fill.sh prints them over the translation 3149e2f6947f690f… (all of the seat's roots in one cut). By AI agents, Wed Nov 11 2026. No macro, syntax, notation, axiom, sorry.
-/
import Derived.Test.YthjjckpgjfjokaaChecked
import GoSem.Claim
import GoSem.ClaimJoined
import GoSem.ClaimMapViews
import Derived.JoinedTies
import Derived.KernelRfl
namespace Go.Proofs.Ythjjckpgjfjokaa
/- THE CELL 'sum', in the pinned program and in every row, IS THE sha256 OF THE DUMP (.gsa) THAT YthjjckpgjfjokaaProg.lean LOADS. Nothing in Lean hashes anything: it is a label: what it is worth is what the hold of that sum in a sandbox is worth. -/
noncomputable def Try.pinned : Pinned := { name := "ythjjckpgjfjokaa", sum := "3149e2f6947f690f6560ed4d5c1b1d86ecb74e08d4a39a5b6726f494b9b07ca5", checked := Try.checked }
namespace Rows
def none {H : Type} : Left H := { results := [], args := [] }

/-- 'pergolalaw10.DiskOrder': WHATEVER THE INPUT: true; the input reads as it did. -/
def diskOrderSpec : ChangeSpec := { name := "diskOrder", fn := fun _ => fun
  | [d1, d2, d3] => { results := [.lit (.bool true)], args := [d1, d2, d3] }
  | _ => none }
def diskOrderRow : OpenClaim := { program := "ythjjckpgjfjokaa", sum := "3149e2f6947f690f6560ed4d5c1b1d86ecb74e08d4a39a5b6726f494b9b07ca5", func := "pergola/pergolalaw10.DiskOrder", spec := "diskOrder", apart := false }
def DiskOrderSaid : Prop := diskOrderRow.holds Try.pinned (OpenSpec.ofChange diskOrderSpec)

/-- ITS FALSE NEIGHBOUR: 'it returns false'. Refute it at one input. -/
def diskOrderWrong : ChangeSpec := { name := "diskOrder", fn := fun _ => fun
  | [d1, d2, d3] => { results := [.lit (.bool false)], args := [d1, d2, d3] }
  | _ => none }
def DiskOrderWrongFalsely : Prop := diskOrderRow.holds Try.pinned (OpenSpec.ofChange diskOrderWrong)

/-- 'pergolalaw10.DiskAgain': WHATEVER THE INPUT: true; the input reads as it did. -/
def diskAgainSpec : ChangeSpec := { name := "diskAgain", fn := fun _ => fun
  | [d1, d2, d3, d4, d5] => { results := [.lit (.bool true)], args := [d1, d2, d3, d4, d5] }
  | _ => none }
def diskAgainRow : OpenClaim := { program := "ythjjckpgjfjokaa", sum := "3149e2f6947f690f6560ed4d5c1b1d86ecb74e08d4a39a5b6726f494b9b07ca5", func := "pergola/pergolalaw10.DiskAgain", spec := "diskAgain", apart := false }
def DiskAgainSaid : Prop := diskAgainRow.holds Try.pinned (OpenSpec.ofChange diskAgainSpec)

/-- ITS FALSE NEIGHBOUR: 'it returns false'. Refute it at one input. -/
def diskAgainWrong : ChangeSpec := { name := "diskAgain", fn := fun _ => fun
  | [d1, d2, d3, d4, d5] => { results := [.lit (.bool false)], args := [d1, d2, d3, d4, d5] }
  | _ => none }
def DiskAgainWrongFalsely : Prop := diskAgainRow.holds Try.pinned (OpenSpec.ofChange diskAgainWrong)

/-- 'pergolalaw10.DiskGood': WHATEVER THE INPUT: true; the input reads as it did. -/
def diskGoodSpec : ChangeSpec := { name := "diskGood", fn := fun _ => fun
  | [d1, d2, d3, d4] => { results := [.lit (.bool true)], args := [d1, d2, d3, d4] }
  | _ => none }
def diskGoodRow : OpenClaim := { program := "ythjjckpgjfjokaa", sum := "3149e2f6947f690f6560ed4d5c1b1d86ecb74e08d4a39a5b6726f494b9b07ca5", func := "pergola/pergolalaw10.DiskGood", spec := "diskGood", apart := false }
def DiskGoodSaid : Prop := diskGoodRow.holds Try.pinned (OpenSpec.ofChange diskGoodSpec)

/-- ITS FALSE NEIGHBOUR: 'it returns false'. Refute it at one input. -/
def diskGoodWrong : ChangeSpec := { name := "diskGood", fn := fun _ => fun
  | [d1, d2, d3, d4] => { results := [.lit (.bool false)], args := [d1, d2, d3, d4] }
  | _ => none }
def DiskGoodWrongFalsely : Prop := diskGoodRow.holds Try.pinned (OpenSpec.ofChange diskGoodWrong)

/-- 'pergolalaw10.DiskNothing': WHATEVER THE INPUT: true; the input reads as it did. -/
def diskNothingSpec : ChangeSpec := { name := "diskNothing", fn := fun _ => fun
  | [d] => { results := [.lit (.bool true)], args := [d] }
  | _ => none }
def diskNothingRow : OpenClaim := { program := "ythjjckpgjfjokaa", sum := "3149e2f6947f690f6560ed4d5c1b1d86ecb74e08d4a39a5b6726f494b9b07ca5", func := "pergola/pergolalaw10.DiskNothing", spec := "diskNothing", inPlace := ["internal/reflectlite.TypeOf"], unfollowed := true, recurses := true, apart := false }
def DiskNothingSaid : Prop := diskNothingRow.holds Try.pinned (OpenSpec.ofChange diskNothingSpec)

/-- ITS FALSE NEIGHBOUR: 'it returns false'. Refute it at one input. -/
def diskNothingWrong : ChangeSpec := { name := "diskNothing", fn := fun _ => fun
  | [d] => { results := [.lit (.bool false)], args := [d] }
  | _ => none }
def DiskNothingWrongFalsely : Prop := diskNothingRow.holds Try.pinned (OpenSpec.ofChange diskNothingWrong)

/- THE SECOND FORM. 'bulk': how many values and letters a reading holds, each counted each time it is reached (what is shared counts as often as it is met; a slice's spare places count too). A statement '..UptoSaid' is the law's where the arguments, and the package variables that the reading takes, are together of bulk at most 1048576: NARROWER than '..Said'. Prove '..Said' where nothing that the law and all that it calls make is longer than what came in: it says more and counts as full. Else prove '..UptoSaid'. A law counts once. -/
mutual
def uptoBulk {H : Type} : DataW H → Nat
  | .lit (.string bytes) => bytes.length + 1
  | .lit _ => 1
  | .nil => 1
  | .ptr d => uptoBulk d + 1
  | .slice elems spare => uptoBulkAll elems + uptoBulkAll spare + 1
  | .agg parts => uptoBulkAll parts + 1
  | .iface _ d => uptoBulk d + 1
  | .map entries => uptoBulkEntries entries + 1
  | .held _ => 1
def uptoBulkAll {H : Type} : List (DataW H) → Nat
  | [] => 0
  | d :: r => uptoBulk d + uptoBulkAll r
def uptoBulkEntries {H : Type} : List (Lit × DataW H) → Nat
  | [] => 0
  | x :: r => uptoBulkEntry x + uptoBulkEntries r
def uptoBulkEntry {H : Type} : Lit × DataW H → Nat
  | (.string bytes, d) => bytes.length + uptoBulk d + 1
  | (_, d) => uptoBulk d + 1
 end
def uptoSmall : (H : Type) → List (DataW H) → Bool := fun _ ds => decide (uptoBulkAll ds ≤ 1048576)
def OpenSpec.upto (s : _root_.Go.ChangeSpec) : _root_.Go.OpenSpec := { _root_.Go.OpenSpec.ofChange s with cond := some uptoSmall }

/-- 'pergolalaw10.DiskOrder', WHERE WHAT IT READS IS OF BULK AT MOST 1048576: true; the input reads as it did. -/
def diskOrderUptoRow : OpenClaim := { program := "ythjjckpgjfjokaa", sum := "3149e2f6947f690f6560ed4d5c1b1d86ecb74e08d4a39a5b6726f494b9b07ca5", func := "pergola/pergolalaw10.DiskOrder", spec := "diskOrder", apart := false, narrowed := true }
def DiskOrderUptoSaid : Prop := diskOrderUptoRow.holds Try.pinned (OpenSpec.upto diskOrderSpec)

/-- 'pergolalaw10.DiskAgain', WHERE WHAT IT READS IS OF BULK AT MOST 1048576: true; the input reads as it did. -/
def diskAgainUptoRow : OpenClaim := { program := "ythjjckpgjfjokaa", sum := "3149e2f6947f690f6560ed4d5c1b1d86ecb74e08d4a39a5b6726f494b9b07ca5", func := "pergola/pergolalaw10.DiskAgain", spec := "diskAgain", apart := false, narrowed := true }
def DiskAgainUptoSaid : Prop := diskAgainUptoRow.holds Try.pinned (OpenSpec.upto diskAgainSpec)

/-- 'pergolalaw10.DiskGood', WHERE WHAT IT READS IS OF BULK AT MOST 1048576: true; the input reads as it did. -/
def diskGoodUptoRow : OpenClaim := { program := "ythjjckpgjfjokaa", sum := "3149e2f6947f690f6560ed4d5c1b1d86ecb74e08d4a39a5b6726f494b9b07ca5", func := "pergola/pergolalaw10.DiskGood", spec := "diskGood", apart := false, narrowed := true }
def DiskGoodUptoSaid : Prop := diskGoodUptoRow.holds Try.pinned (OpenSpec.upto diskGoodSpec)

/-- 'pergolalaw10.DiskNothing', WHERE WHAT IT READS IS OF BULK AT MOST 1048576: true; the input reads as it did. -/
def diskNothingUptoRow : OpenClaim := { program := "ythjjckpgjfjokaa", sum := "3149e2f6947f690f6560ed4d5c1b1d86ecb74e08d4a39a5b6726f494b9b07ca5", func := "pergola/pergolalaw10.DiskNothing", spec := "diskNothing", inPlace := ["internal/reflectlite.TypeOf"], unfollowed := true, recurses := true, apart := false, narrowed := true }
def DiskNothingUptoSaid : Prop := diskNothingUptoRow.holds Try.pinned (OpenSpec.upto diskNothingSpec)

end Rows
end Go.Proofs.Ythjjckpgjfjokaa
