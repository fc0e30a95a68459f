/-
  Is of the answer, as the statements meet it.
-/
import Derived.Test.YtndohjgfjbopnaaRefT
set_option linter.unusedSimpArgs false
set_option linter.unusedVariables false
namespace Go.Proofs.Ytndohjgfjbopnaa
open Go.RowKit Go.Cv Go.Cv.Pr Go.Cv.Grp
theorem ris_t {f g : Nat → UInt8} (h : C7.on (tf (V f)) (tf (V g))) (w : World) : Calls Try.prog 31 #[.agg (pc f g)] w fun e w' => e = .returned (.bool true) ∧ Ext w w' := by
  have := ris f g w
  rwa [decide_eq_true (show tf (V g) * tf (V g) - tf (V f) * tf (V f) = 1 + C7.d * (tf (V f) * tf (V f)) * (tf (V g) * tf (V g)) from h)] at this
theorem ris_f {f g : Nat → UInt8} (h : ¬ C7.on (tf (V f)) (tf (V g))) (w : World) : Calls Try.prog 31 #[.agg (pc f g)] w fun e w' => e = .returned (.bool false) ∧ Ext w w' := by
  have := ris f g w
  rwa [decide_eq_false (show ¬ (tf (V g) * tf (V g) - tf (V f) * tf (V f) = 1 + C7.d * (tf (V f) * tf (V f)) * (tf (V g) * tf (V g))) from h)] at this
end Go.Proofs.Ytndohjgfjbopnaa
