/-
  Contracts of layer 7 as the statements meet them.
-/
import Derived.Test.YtndohjgfjbopnaaComR
import Derived.Test.YtndohjgfjbopnaaSome
import Derived.Test.YtndohjgfjbopnaaGiv
import Derived.Test.YtndohjgfjbopnaaTimI
set_option linter.unusedSimpArgs false
set_option linter.unusedVariables false
namespace Go.Proofs.Ytndohjgfjbopnaa
open Go.RowKit Go.Cv Go.Cv.Pr Go.Cv.Grp
theorem rneg_pt {f g : Nat → UInt8} {P : P7} (hx : tf (V f) = P.x) (hy : tf (V g) = P.y) (w : World) : Calls Try.prog 49 #[.agg (pc f g)] w fun e w' => e = .returned (.agg (pc (fb P.neg.x) (fb P.neg.y))) ∧ Ext w w' := by
  have := rneg f g w
  rw [hx, hy] at this
  exact this
theorem neg_p2 {f g : Nat → UInt8} {P : P7} (hx : tf (V f) = P.x) (hy : tf (V g) = P.y) (w : World) : Calls Try.prog 45 #[.agg (pc f g)] w fun e w' => e = .returned (.tuple #[.agg (pc (fb P.neg.x) (fb P.neg.y)), .nilIface]) ∧ Ext w w' := by
  have := neg_on (f := f) (g := g) (by rw [hx, hy]; exact P.on) w
  rw [hx, hy] at this
  exact this
theorem add_o2 {f g : Nat → UInt8} (P : P7) (h : ¬ C7.on (tf (V f)) (tf (V g))) (w : World) : Calls Try.prog 44 #[.agg (pc (fb P.x) (fb P.y)), .agg (pc f g)] w fun e w' => e = .returned (.tuple #[.agg (pc (fun _ => 0) (fun _ => 0)), errPoint]) ∧ Ext w w' := add_off2 (on_pt P) h w
theorem add_comm_p {f g k l : Nat → UInt8} {P Q : P7} (hx : tf (V f) = Q.x) (hy : tf (V g) = Q.y) (hx2 : tf (V k) = P.x) (hy2 : tf (V l) = P.y) (w : World) :
    Calls Try.prog 44 #[.agg (pc f g), .agg (pc k l)] w fun e w' => e = .returned (.tuple #[.agg (pc (fb (P.add Q).x) (fb (P.add Q).y)), .nilIface]) ∧ Ext w w' := by
  have h := add_on hx hy hx2 hy2 w
  rw [Pt.add_comm] at h
  exact h
end Go.Proofs.Ytndohjgfjbopnaa
