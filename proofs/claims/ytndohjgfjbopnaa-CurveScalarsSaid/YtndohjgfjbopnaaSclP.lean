/-
  The statement CurveScalars, with its arguments opened.
-/
import Derived.Test.YtndohjgfjbopnaaScl
import Derived.Test.YtndohjgfjbopnaaArgs
import Derived.Test.YtndohjgfjbopnaaArga
set_option linter.unusedVariables false
namespace Go.Proofs.Ytndohjgfjbopnaa
open Go.RowKit Go.Cv
theorem scalars_p (A : Option Addr) (n c : Nat) (l : List UInt8) (f g : Nat → UInt8) (w : World) (bnd : c ≤ 140737488351232) (h : ArgB w A n c l) :
    Calls Try.prog 8 #[.slice A n c, .agg (bcells f), .agg (bcells g)] w fun e w' => e = .returned (.bool true) ∧ Ext w w' :=
  scalars_w A n c l f g w h.len h.rd
end Go.Proofs.Ytndohjgfjbopnaa
