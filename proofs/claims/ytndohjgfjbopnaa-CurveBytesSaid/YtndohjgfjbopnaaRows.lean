/-
  No cell of these rows narrows 'for every input' (looked for: loops, veiled, ifaces, maps, wideKeys, modest, calm, conditions, laid).
  DERIVED. THE GIVEN ROWS OF THIS SEAT. 10 by the template 'for every input the law returns true; each argument reads behind the call as it read before'; 0 by the template 'total and deterministic' (their statements: YtndohjgfjbopnaaTotals.lean).
  GIVEN WITH THE SEED: the statements are not yours to turn. If you find one false, say at which input.
  Laid BY PROGRAM, IN A SANDBOX (cutbox-rows.mjs): the forced cells as the released guide's own fill.sh prints them over the translation 28dc483843be63ee… (all of the seat's roots in one cut). By AI agents, Wed Nov 11 2026. No macro, syntax, notation, axiom, sorry.
-/
import Derived.Test.YtndohjgfjbopnaaChecked
import GoSem.Claim
import GoSem.ClaimJoined
import GoSem.ClaimMapViews
import Derived.JoinedTies
import Derived.KernelRfl
namespace Go.Proofs.Ytndohjgfjbopnaa
/- THE CELL 'sum', in the pinned program and in every row, IS THE sha256 OF THE DUMP (.gsa) THAT YtndohjgfjbopnaaProg.lean LOADS. Nothing in Lean hashes anything: it is a label: what it is worth is what the hold of that sum in a sandbox is worth. -/
noncomputable def Try.pinned : Pinned := { name := "ytndohjgfjbopnaa", sum := "28dc483843be63ee9589128dc76d563f7467ce6179bb33aa5c66c6af149059ad", checked := Try.checked }
namespace Rows
def none {H : Type} : Left H := { results := [], args := [] }

/-- 'coveylaw06.FieldInvs': WHATEVER THE INPUT: true; the input reads as it did. -/
def fieldInvsSpec : ChangeSpec := { name := "fieldInvs", fn := fun _ => fun
  | [d] => { results := [.lit (.bool true)], args := [d] }
  | _ => none }
def fieldInvsRow : OpenClaim := { program := "ytndohjgfjbopnaa", sum := "28dc483843be63ee9589128dc76d563f7467ce6179bb33aa5c66c6af149059ad", func := "covey/coveylaw06.FieldInvs", spec := "fieldInvs", inPlace := ["math/bits.Add64", "math/bits.Sub64"], apart := false }
def FieldInvsSaid : Prop := fieldInvsRow.holds Try.pinned (OpenSpec.ofChange fieldInvsSpec)

/-- ITS FALSE NEIGHBOUR: 'it returns false'. Refute it at one input. -/
def fieldInvsWrong : ChangeSpec := { name := "fieldInvs", fn := fun _ => fun
  | [d] => { results := [.lit (.bool false)], args := [d] }
  | _ => none }
def FieldInvsWrongFalsely : Prop := fieldInvsRow.holds Try.pinned (OpenSpec.ofChange fieldInvsWrong)

/-- 'coveylaw06.FieldRoots': WHATEVER THE INPUT: true; the input reads as it did. -/
def fieldRootsSpec : ChangeSpec := { name := "fieldRoots", fn := fun _ => fun
  | [d] => { results := [.lit (.bool true)], args := [d] }
  | _ => none }
def fieldRootsRow : OpenClaim := { program := "ytndohjgfjbopnaa", sum := "28dc483843be63ee9589128dc76d563f7467ce6179bb33aa5c66c6af149059ad", func := "covey/coveylaw06.FieldRoots", spec := "fieldRoots", inPlace := ["math/bits.Add64", "math/bits.Sub64"], apart := false }
def FieldRootsSaid : Prop := fieldRootsRow.holds Try.pinned (OpenSpec.ofChange fieldRootsSpec)

/-- ITS FALSE NEIGHBOUR: 'it returns false'. Refute it at one input. -/
def fieldRootsWrong : ChangeSpec := { name := "fieldRoots", fn := fun _ => fun
  | [d] => { results := [.lit (.bool false)], args := [d] }
  | _ => none }
def FieldRootsWrongFalsely : Prop := fieldRootsRow.holds Try.pinned (OpenSpec.ofChange fieldRootsWrong)

/-- 'coveylaw06.FieldSums': WHATEVER THE INPUT: true; the input reads as it did. -/
def fieldSumsSpec : ChangeSpec := { name := "fieldSums", fn := fun _ => fun
  | [d1, d2] => { results := [.lit (.bool true)], args := [d1, d2] }
  | _ => none }
def fieldSumsRow : OpenClaim := { program := "ytndohjgfjbopnaa", sum := "28dc483843be63ee9589128dc76d563f7467ce6179bb33aa5c66c6af149059ad", func := "covey/coveylaw06.FieldSums", spec := "fieldSums", inPlace := ["math/bits.Add64", "math/bits.Sub64"], apart := false }
def FieldSumsSaid : Prop := fieldSumsRow.holds Try.pinned (OpenSpec.ofChange fieldSumsSpec)

/-- ITS FALSE NEIGHBOUR: 'it returns false'. Refute it at one input. -/
def fieldSumsWrong : ChangeSpec := { name := "fieldSums", fn := fun _ => fun
  | [d1, d2] => { results := [.lit (.bool false)], args := [d1, d2] }
  | _ => none }
def FieldSumsWrongFalsely : Prop := fieldSumsRow.holds Try.pinned (OpenSpec.ofChange fieldSumsWrong)

/-- 'coveylaw06.FieldLaws': WHATEVER THE INPUT: true; the input reads as it did. -/
def fieldLawsSpec : ChangeSpec := { name := "fieldLaws", fn := fun _ => fun
  | [d1, d2, d3] => { results := [.lit (.bool true)], args := [d1, d2, d3] }
  | _ => none }
def fieldLawsRow : OpenClaim := { program := "ytndohjgfjbopnaa", sum := "28dc483843be63ee9589128dc76d563f7467ce6179bb33aa5c66c6af149059ad", func := "covey/coveylaw06.FieldLaws", spec := "fieldLaws", inPlace := ["math/bits.Add64", "math/bits.Sub64"], apart := false }
def FieldLawsSaid : Prop := fieldLawsRow.holds Try.pinned (OpenSpec.ofChange fieldLawsSpec)

/-- ITS FALSE NEIGHBOUR: 'it returns false'. Refute it at one input. -/
def fieldLawsWrong : ChangeSpec := { name := "fieldLaws", fn := fun _ => fun
  | [d1, d2, d3] => { results := [.lit (.bool false)], args := [d1, d2, d3] }
  | _ => none }
def FieldLawsWrongFalsely : Prop := fieldLawsRow.holds Try.pinned (OpenSpec.ofChange fieldLawsWrong)

/-- 'coveylaw07.CurveIs': WHATEVER THE INPUT: true; the input reads as it did. -/
def curveIsSpec : ChangeSpec := { name := "curveIs", fn := fun _ => fun
  | [d] => { results := [.lit (.bool true)], args := [d] }
  | _ => none }
def curveIsRow : OpenClaim := { program := "ytndohjgfjbopnaa", sum := "28dc483843be63ee9589128dc76d563f7467ce6179bb33aa5c66c6af149059ad", func := "covey/coveylaw07.CurveIs", spec := "curveIs", inPlace := ["math/bits.Add64", "math/bits.Sub64"], apart := false }
def CurveIsSaid : Prop := curveIsRow.holds Try.pinned (OpenSpec.ofChange curveIsSpec)

/-- ITS FALSE NEIGHBOUR: 'it returns false'. Refute it at one input. -/
def curveIsWrong : ChangeSpec := { name := "curveIs", fn := fun _ => fun
  | [d] => { results := [.lit (.bool false)], args := [d] }
  | _ => none }
def CurveIsWrongFalsely : Prop := curveIsRow.holds Try.pinned (OpenSpec.ofChange curveIsWrong)

/-- 'coveylaw07.CurveScalars': WHATEVER THE INPUT: true; the input reads as it did. -/
def curveScalarsSpec : ChangeSpec := { name := "curveScalars", fn := fun _ => fun
  | [d1, d2, d3] => { results := [.lit (.bool true)], args := [d1, d2, d3] }
  | _ => none }
def curveScalarsRow : OpenClaim := { program := "ytndohjgfjbopnaa", sum := "28dc483843be63ee9589128dc76d563f7467ce6179bb33aa5c66c6af149059ad", func := "covey/coveylaw07.CurveScalars", spec := "curveScalars", inPlace := ["math/bits.Add64", "math/bits.Sub64"], apart := false }
def CurveScalarsSaid : Prop := curveScalarsRow.holds Try.pinned (OpenSpec.ofChange curveScalarsSpec)

/-- ITS FALSE NEIGHBOUR: 'it returns false'. Refute it at one input. -/
def curveScalarsWrong : ChangeSpec := { name := "curveScalars", fn := fun _ => fun
  | [d1, d2, d3] => { results := [.lit (.bool false)], args := [d1, d2, d3] }
  | _ => none }
def CurveScalarsWrongFalsely : Prop := curveScalarsRow.holds Try.pinned (OpenSpec.ofChange curveScalarsWrong)

/-- 'coveylaw07.CurveAdds': WHATEVER THE INPUT: true; the input reads as it did. -/
def curveAddsSpec : ChangeSpec := { name := "curveAdds", fn := fun _ => fun
  | [d1, d2, d3] => { results := [.lit (.bool true)], args := [d1, d2, d3] }
  | _ => none }
def curveAddsRow : OpenClaim := { program := "ytndohjgfjbopnaa", sum := "28dc483843be63ee9589128dc76d563f7467ce6179bb33aa5c66c6af149059ad", func := "covey/coveylaw07.CurveAdds", spec := "curveAdds", inPlace := ["math/bits.Add64", "math/bits.Sub64"], apart := false }
def CurveAddsSaid : Prop := curveAddsRow.holds Try.pinned (OpenSpec.ofChange curveAddsSpec)

/-- ITS FALSE NEIGHBOUR: 'it returns false'. Refute it at one input. -/
def curveAddsWrong : ChangeSpec := { name := "curveAdds", fn := fun _ => fun
  | [d1, d2, d3] => { results := [.lit (.bool false)], args := [d1, d2, d3] }
  | _ => none }
def CurveAddsWrongFalsely : Prop := curveAddsRow.holds Try.pinned (OpenSpec.ofChange curveAddsWrong)

/-- 'coveylaw07.CurveTimes': WHATEVER THE INPUT: true; the input reads as it did. -/
def curveTimesSpec : ChangeSpec := { name := "curveTimes", fn := fun _ => fun
  | [d1, d2, d3] => { results := [.lit (.bool true)], args := [d1, d2, d3] }
  | _ => none }
def curveTimesRow : OpenClaim := { program := "ytndohjgfjbopnaa", sum := "28dc483843be63ee9589128dc76d563f7467ce6179bb33aa5c66c6af149059ad", func := "covey/coveylaw07.CurveTimes", spec := "curveTimes", inPlace := ["math/bits.Add64", "math/bits.Sub64"], apart := false }
def CurveTimesSaid : Prop := curveTimesRow.holds Try.pinned (OpenSpec.ofChange curveTimesSpec)

/-- ITS FALSE NEIGHBOUR: 'it returns false'. Refute it at one input. -/
def curveTimesWrong : ChangeSpec := { name := "curveTimes", fn := fun _ => fun
  | [d1, d2, d3] => { results := [.lit (.bool false)], args := [d1, d2, d3] }
  | _ => none }
def CurveTimesWrongFalsely : Prop := curveTimesRow.holds Try.pinned (OpenSpec.ofChange curveTimesWrong)

/-- 'coveylaw07.CurveBytes': WHATEVER THE INPUT: true; the input reads as it did. -/
def curveBytesSpec : ChangeSpec := { name := "curveBytes", fn := fun _ => fun
  | [d1, d2] => { results := [.lit (.bool true)], args := [d1, d2] }
  | _ => none }
def curveBytesRow : OpenClaim := { program := "ytndohjgfjbopnaa", sum := "28dc483843be63ee9589128dc76d563f7467ce6179bb33aa5c66c6af149059ad", func := "covey/coveylaw07.CurveBytes", spec := "curveBytes", inPlace := ["math/bits.Add64", "math/bits.Sub64"], apart := false }
def CurveBytesSaid : Prop := curveBytesRow.holds Try.pinned (OpenSpec.ofChange curveBytesSpec)

/-- ITS FALSE NEIGHBOUR: 'it returns false'. Refute it at one input. -/
def curveBytesWrong : ChangeSpec := { name := "curveBytes", fn := fun _ => fun
  | [d1, d2] => { results := [.lit (.bool false)], args := [d1, d2] }
  | _ => none }
def CurveBytesWrongFalsely : Prop := curveBytesRow.holds Try.pinned (OpenSpec.ofChange curveBytesWrong)

/-- 'coveylaw07.CurveGroup': WHATEVER THE INPUT: true; the input reads as it did. -/
def curveGroupSpec : ChangeSpec := { name := "curveGroup", fn := fun _ => fun
  | [d1, d2, d3] => { results := [.lit (.bool true)], args := [d1, d2, d3] }
  | _ => none }
def curveGroupRow : OpenClaim := { program := "ytndohjgfjbopnaa", sum := "28dc483843be63ee9589128dc76d563f7467ce6179bb33aa5c66c6af149059ad", func := "covey/coveylaw07.CurveGroup", spec := "curveGroup", inPlace := ["math/bits.Add64", "math/bits.Sub64"], apart := false }
def CurveGroupSaid : Prop := curveGroupRow.holds Try.pinned (OpenSpec.ofChange curveGroupSpec)

/-- ITS FALSE NEIGHBOUR: 'it returns false'. Refute it at one input. -/
def curveGroupWrong : ChangeSpec := { name := "curveGroup", fn := fun _ => fun
  | [d1, d2, d3] => { results := [.lit (.bool false)], args := [d1, d2, d3] }
  | _ => none }
def CurveGroupWrongFalsely : Prop := curveGroupRow.holds Try.pinned (OpenSpec.ofChange curveGroupWrong)

/- THE SECOND FORM. 'bulk': how many values and letters a reading holds, each counted each time it is reached (what is shared counts as often as it is met; a slice's spare places count too). A statement '..UptoSaid' is the law's where the arguments, and the package variables that the reading takes, are together of bulk at most 1048576: NARROWER than '..Said'. Prove '..Said' where nothing that the law and all that it calls make is longer than what came in: it says more and counts as full. Else prove '..UptoSaid'. A law counts once. -/
mutual
def uptoBulk {H : Type} : DataW H → Nat
  | .lit (.string bytes) => bytes.length + 1
  | .lit _ => 1
  | .nil => 1
  | .ptr d => uptoBulk d + 1
  | .slice elems spare => uptoBulkAll elems + uptoBulkAll spare + 1
  | .agg parts => uptoBulkAll parts + 1
  | .iface _ d => uptoBulk d + 1
  | .map entries => uptoBulkEntries entries + 1
  | .held _ => 1
def uptoBulkAll {H : Type} : List (DataW H) → Nat
  | [] => 0
  | d :: r => uptoBulk d + uptoBulkAll r
def uptoBulkEntries {H : Type} : List (Lit × DataW H) → Nat
  | [] => 0
  | x :: r => uptoBulkEntry x + uptoBulkEntries r
def uptoBulkEntry {H : Type} : Lit × DataW H → Nat
  | (.string bytes, d) => bytes.length + uptoBulk d + 1
  | (_, d) => uptoBulk d + 1
 end
def uptoSmall : (H : Type) → List (DataW H) → Bool := fun _ ds => decide (uptoBulkAll ds ≤ 1048576)
def OpenSpec.upto (s : _root_.Go.ChangeSpec) : _root_.Go.OpenSpec := { _root_.Go.OpenSpec.ofChange s with cond := some uptoSmall }

/-- 'coveylaw06.FieldInvs', WHERE WHAT IT READS IS OF BULK AT MOST 1048576: true; the input reads as it did. -/
def fieldInvsUptoRow : OpenClaim := { program := "ytndohjgfjbopnaa", sum := "28dc483843be63ee9589128dc76d563f7467ce6179bb33aa5c66c6af149059ad", func := "covey/coveylaw06.FieldInvs", spec := "fieldInvs", inPlace := ["math/bits.Add64", "math/bits.Sub64"], apart := false, narrowed := true }
def FieldInvsUptoSaid : Prop := fieldInvsUptoRow.holds Try.pinned (OpenSpec.upto fieldInvsSpec)

/-- 'coveylaw06.FieldRoots', WHERE WHAT IT READS IS OF BULK AT MOST 1048576: true; the input reads as it did. -/
def fieldRootsUptoRow : OpenClaim := { program := "ytndohjgfjbopnaa", sum := "28dc483843be63ee9589128dc76d563f7467ce6179bb33aa5c66c6af149059ad", func := "covey/coveylaw06.FieldRoots", spec := "fieldRoots", inPlace := ["math/bits.Add64", "math/bits.Sub64"], apart := false, narrowed := true }
def FieldRootsUptoSaid : Prop := fieldRootsUptoRow.holds Try.pinned (OpenSpec.upto fieldRootsSpec)

/-- 'coveylaw06.FieldSums', WHERE WHAT IT READS IS OF BULK AT MOST 1048576: true; the input reads as it did. -/
def fieldSumsUptoRow : OpenClaim := { program := "ytndohjgfjbopnaa", sum := "28dc483843be63ee9589128dc76d563f7467ce6179bb33aa5c66c6af149059ad", func := "covey/coveylaw06.FieldSums", spec := "fieldSums", inPlace := ["math/bits.Add64", "math/bits.Sub64"], apart := false, narrowed := true }
def FieldSumsUptoSaid : Prop := fieldSumsUptoRow.holds Try.pinned (OpenSpec.upto fieldSumsSpec)

/-- 'coveylaw06.FieldLaws', WHERE WHAT IT READS IS OF BULK AT MOST 1048576: true; the input reads as it did. -/
def fieldLawsUptoRow : OpenClaim := { program := "ytndohjgfjbopnaa", sum := "28dc483843be63ee9589128dc76d563f7467ce6179bb33aa5c66c6af149059ad", func := "covey/coveylaw06.FieldLaws", spec := "fieldLaws", inPlace := ["math/bits.Add64", "math/bits.Sub64"], apart := false, narrowed := true }
def FieldLawsUptoSaid : Prop := fieldLawsUptoRow.holds Try.pinned (OpenSpec.upto fieldLawsSpec)

/-- 'coveylaw07.CurveIs', WHERE WHAT IT READS IS OF BULK AT MOST 1048576: true; the input reads as it did. -/
def curveIsUptoRow : OpenClaim := { program := "ytndohjgfjbopnaa", sum := "28dc483843be63ee9589128dc76d563f7467ce6179bb33aa5c66c6af149059ad", func := "covey/coveylaw07.CurveIs", spec := "curveIs", inPlace := ["math/bits.Add64", "math/bits.Sub64"], apart := false, narrowed := true }
def CurveIsUptoSaid : Prop := curveIsUptoRow.holds Try.pinned (OpenSpec.upto curveIsSpec)

/-- 'coveylaw07.CurveScalars', WHERE WHAT IT READS IS OF BULK AT MOST 1048576: true; the input reads as it did. -/
def curveScalarsUptoRow : OpenClaim := { program := "ytndohjgfjbopnaa", sum := "28dc483843be63ee9589128dc76d563f7467ce6179bb33aa5c66c6af149059ad", func := "covey/coveylaw07.CurveScalars", spec := "curveScalars", inPlace := ["math/bits.Add64", "math/bits.Sub64"], apart := false, narrowed := true }
def CurveScalarsUptoSaid : Prop := curveScalarsUptoRow.holds Try.pinned (OpenSpec.upto curveScalarsSpec)

/-- 'coveylaw07.CurveAdds', WHERE WHAT IT READS IS OF BULK AT MOST 1048576: true; the input reads as it did. -/
def curveAddsUptoRow : OpenClaim := { program := "ytndohjgfjbopnaa", sum := "28dc483843be63ee9589128dc76d563f7467ce6179bb33aa5c66c6af149059ad", func := "covey/coveylaw07.CurveAdds", spec := "curveAdds", inPlace := ["math/bits.Add64", "math/bits.Sub64"], apart := false, narrowed := true }
def CurveAddsUptoSaid : Prop := curveAddsUptoRow.holds Try.pinned (OpenSpec.upto curveAddsSpec)

/-- 'coveylaw07.CurveTimes', WHERE WHAT IT READS IS OF BULK AT MOST 1048576: true; the input reads as it did. -/
def curveTimesUptoRow : OpenClaim := { program := "ytndohjgfjbopnaa", sum := "28dc483843be63ee9589128dc76d563f7467ce6179bb33aa5c66c6af149059ad", func := "covey/coveylaw07.CurveTimes", spec := "curveTimes", inPlace := ["math/bits.Add64", "math/bits.Sub64"], apart := false, narrowed := true }
def CurveTimesUptoSaid : Prop := curveTimesUptoRow.holds Try.pinned (OpenSpec.upto curveTimesSpec)

/-- 'coveylaw07.CurveBytes', WHERE WHAT IT READS IS OF BULK AT MOST 1048576: true; the input reads as it did. -/
def curveBytesUptoRow : OpenClaim := { program := "ytndohjgfjbopnaa", sum := "28dc483843be63ee9589128dc76d563f7467ce6179bb33aa5c66c6af149059ad", func := "covey/coveylaw07.CurveBytes", spec := "curveBytes", inPlace := ["math/bits.Add64", "math/bits.Sub64"], apart := false, narrowed := true }
def CurveBytesUptoSaid : Prop := curveBytesUptoRow.holds Try.pinned (OpenSpec.upto curveBytesSpec)

/-- 'coveylaw07.CurveGroup', WHERE WHAT IT READS IS OF BULK AT MOST 1048576: true; the input reads as it did. -/
def curveGroupUptoRow : OpenClaim := { program := "ytndohjgfjbopnaa", sum := "28dc483843be63ee9589128dc76d563f7467ce6179bb33aa5c66c6af149059ad", func := "covey/coveylaw07.CurveGroup", spec := "curveGroup", inPlace := ["math/bits.Add64", "math/bits.Sub64"], apart := false, narrowed := true }
def CurveGroupUptoSaid : Prop := curveGroupUptoRow.holds Try.pinned (OpenSpec.upto curveGroupSpec)

end Rows
end Go.Proofs.Ytndohjgfjbopnaa
