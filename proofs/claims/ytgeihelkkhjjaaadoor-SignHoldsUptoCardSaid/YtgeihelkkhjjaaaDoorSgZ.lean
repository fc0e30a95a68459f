/-
  SignHolds as its closing text takes it.
-/
import Derived.Test.YtgeihelkkhjjaaaDoorSgF
import Derived.Test.YtgeihelkkhjjaaaDoorArgs
import Derived.Test.YtgeihelkkhjjaaaDoorArga
namespace Go.Proofs.YtgeihelkkhjjaaaDoor
open Go.RowKit Go.Cv Go.Cv.Hash
theorem holds_w (f : Nat → UInt8) (A : Option Addr) (n cap : Nat) (l : List UInt8) (x2 : Int) (w : World) (hT : Tab64 w) (hl : ArgB w A n cap l) (_ : (Lit.int .i64 x2).wf = true) (bnd : cap ≤ 1048576) :
    Calls Tryd.prog 3 #[.agg (bcells f), .slice A n cap, .int .i64 x2] w fun e w' => e = .returned (.bool true) ∧ Ext w w' := by
  have hc := hl.le
  exact holds_any f A n cap l x2 w hl.len hc hl.rd (by omega) hT
end Go.Proofs.YtgeihelkkhjjaaaDoor
