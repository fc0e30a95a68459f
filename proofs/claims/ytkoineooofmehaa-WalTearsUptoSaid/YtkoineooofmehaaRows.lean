/-
  No cell of these rows narrows 'for every input' (looked for: loops, veiled, ifaces, maps, wideKeys, modest, calm, conditions, laid).
  DERIVED. THE GIVEN ROWS OF THIS SEAT. 3 by the template 'for every input the law returns true; each argument reads behind the call as it read before'; 0 by the template 'total and deterministic' (their statements: YtkoineooofmehaaTotals.lean).
  GIVEN WITH THE SEED: the statements are not yours to turn. If you find one false, say at which input.
  Laid BY PROGRAM, IN A SANDBOX (cutbox-rows.mjs): the forced cells as the released guide's own fill.sh prints them over the translation cff602d523a8629f… (all of the seat's roots in one cut). By AI agents, Wed Nov 11 2026. No macro, syntax, notation, axiom, sorry.
-/
import Derived.Test.YtkoineooofmehaaChecked
import GoSem.Claim
import GoSem.ClaimJoined
import GoSem.ClaimMapViews
import Derived.JoinedTies
import Derived.KernelRfl
namespace Go.Proofs.Ytkoineooofmehaa
/- THE CELL 'sum', in the pinned program and in every row, IS THE sha256 OF THE DUMP (.gsa) THAT YtkoineooofmehaaProg.lean LOADS. Nothing in Lean hashes anything: it is a label: what it is worth is what the hold of that sum in a sandbox is worth. -/
noncomputable def Try.pinned : Pinned := { name := "ytkoineooofmehaa", sum := "cff602d523a8629fe323fb693ac6aaceac7f72e13502012c59464d37f394d017", checked := Try.checked }
namespace Rows
def none {H : Type} : Left H := { results := [], args := [] }

/-- 'coveylaw11.WalFrames': WHATEVER THE INPUT: true; the input reads as it did. -/
def walFramesSpec : ChangeSpec := { name := "walFrames", fn := fun _ => fun
  | [d] => { results := [.lit (.bool true)], args := [d] }
  | _ => none }
def walFramesRow : OpenClaim := { program := "ytkoineooofmehaa", sum := "cff602d523a8629fe323fb693ac6aaceac7f72e13502012c59464d37f394d017", func := "covey/coveylaw11.WalFrames", spec := "walFrames", apart := false }
def WalFramesSaid : Prop := walFramesRow.holds Try.pinned (OpenSpec.ofChange walFramesSpec)

/-- ITS FALSE NEIGHBOUR: 'it returns false'. Refute it at one input. -/
def walFramesWrong : ChangeSpec := { name := "walFrames", fn := fun _ => fun
  | [d] => { results := [.lit (.bool false)], args := [d] }
  | _ => none }
def WalFramesWrongFalsely : Prop := walFramesRow.holds Try.pinned (OpenSpec.ofChange walFramesWrong)

/-- 'coveylaw11.WalScans': WHATEVER THE INPUT: true; the input reads as it did. -/
def walScansSpec : ChangeSpec := { name := "walScans", fn := fun _ => fun
  | [d] => { results := [.lit (.bool true)], args := [d] }
  | _ => none }
def walScansRow : OpenClaim := { program := "ytkoineooofmehaa", sum := "cff602d523a8629fe323fb693ac6aaceac7f72e13502012c59464d37f394d017", func := "covey/coveylaw11.WalScans", spec := "walScans", apart := false }
def WalScansSaid : Prop := walScansRow.holds Try.pinned (OpenSpec.ofChange walScansSpec)

/-- ITS FALSE NEIGHBOUR: 'it returns false'. Refute it at one input. -/
def walScansWrong : ChangeSpec := { name := "walScans", fn := fun _ => fun
  | [d] => { results := [.lit (.bool false)], args := [d] }
  | _ => none }
def WalScansWrongFalsely : Prop := walScansRow.holds Try.pinned (OpenSpec.ofChange walScansWrong)

/-- 'coveylaw11.WalTears': WHATEVER THE INPUT: true; the input reads as it did. -/
def walTearsSpec : ChangeSpec := { name := "walTears", fn := fun _ => fun
  | [d1, d2] => { results := [.lit (.bool true)], args := [d1, d2] }
  | _ => none }
def walTearsRow : OpenClaim := { program := "ytkoineooofmehaa", sum := "cff602d523a8629fe323fb693ac6aaceac7f72e13502012c59464d37f394d017", func := "covey/coveylaw11.WalTears", spec := "walTears", apart := false }
def WalTearsSaid : Prop := walTearsRow.holds Try.pinned (OpenSpec.ofChange walTearsSpec)

/-- ITS FALSE NEIGHBOUR: 'it returns false'. Refute it at one input. -/
def walTearsWrong : ChangeSpec := { name := "walTears", fn := fun _ => fun
  | [d1, d2] => { results := [.lit (.bool false)], args := [d1, d2] }
  | _ => none }
def WalTearsWrongFalsely : Prop := walTearsRow.holds Try.pinned (OpenSpec.ofChange walTearsWrong)

/- THE SECOND FORM. 'bulk': how many values and letters a reading holds, each counted each time it is reached (what is shared counts as often as it is met; a slice's spare places count too). A statement '..UptoSaid' is the law's where the arguments, and the package variables that the reading takes, are together of bulk at most 1048576: NARROWER than '..Said'. Prove '..Said' where nothing that the law and all that it calls make is longer than what came in: it says more and counts as full. Else prove '..UptoSaid'. A law counts once. -/
mutual
def uptoBulk {H : Type} : DataW H → Nat
  | .lit (.string bytes) => bytes.length + 1
  | .lit _ => 1
  | .nil => 1
  | .ptr d => uptoBulk d + 1
  | .slice elems spare => uptoBulkAll elems + uptoBulkAll spare + 1
  | .agg parts => uptoBulkAll parts + 1
  | .iface _ d => uptoBulk d + 1
  | .map entries => uptoBulkEntries entries + 1
  | .held _ => 1
def uptoBulkAll {H : Type} : List (DataW H) → Nat
  | [] => 0
  | d :: r => uptoBulk d + uptoBulkAll r
def uptoBulkEntries {H : Type} : List (Lit × DataW H) → Nat
  | [] => 0
  | x :: r => uptoBulkEntry x + uptoBulkEntries r
def uptoBulkEntry {H : Type} : Lit × DataW H → Nat
  | (.string bytes, d) => bytes.length + uptoBulk d + 1
  | (_, d) => uptoBulk d + 1
 end
def uptoSmall : (H : Type) → List (DataW H) → Bool := fun _ ds => decide (uptoBulkAll ds ≤ 1048576)
def OpenSpec.upto (s : _root_.Go.ChangeSpec) : _root_.Go.OpenSpec := { _root_.Go.OpenSpec.ofChange s with cond := some uptoSmall }

/-- 'coveylaw11.WalFrames', WHERE WHAT IT READS IS OF BULK AT MOST 1048576: true; the input reads as it did. -/
def walFramesUptoRow : OpenClaim := { program := "ytkoineooofmehaa", sum := "cff602d523a8629fe323fb693ac6aaceac7f72e13502012c59464d37f394d017", func := "covey/coveylaw11.WalFrames", spec := "walFrames", apart := false, narrowed := true }
def WalFramesUptoSaid : Prop := walFramesUptoRow.holds Try.pinned (OpenSpec.upto walFramesSpec)

/-- 'coveylaw11.WalScans', WHERE WHAT IT READS IS OF BULK AT MOST 1048576: true; the input reads as it did. -/
def walScansUptoRow : OpenClaim := { program := "ytkoineooofmehaa", sum := "cff602d523a8629fe323fb693ac6aaceac7f72e13502012c59464d37f394d017", func := "covey/coveylaw11.WalScans", spec := "walScans", apart := false, narrowed := true }
def WalScansUptoSaid : Prop := walScansUptoRow.holds Try.pinned (OpenSpec.upto walScansSpec)

/-- 'coveylaw11.WalTears', WHERE WHAT IT READS IS OF BULK AT MOST 1048576: true; the input reads as it did. -/
def walTearsUptoRow : OpenClaim := { program := "ytkoineooofmehaa", sum := "cff602d523a8629fe323fb693ac6aaceac7f72e13502012c59464d37f394d017", func := "covey/coveylaw11.WalTears", spec := "walTears", apart := false, narrowed := true }
def WalTearsUptoSaid : Prop := walTearsUptoRow.holds Try.pinned (OpenSpec.upto walTearsSpec)

end Rows
end Go.Proofs.Ytkoineooofmehaa
