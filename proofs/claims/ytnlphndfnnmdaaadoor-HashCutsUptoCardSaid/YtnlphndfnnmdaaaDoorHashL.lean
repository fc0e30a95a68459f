/-
  HashCuts as its closing text takes it.
-/
import Derived.Test.YtnlphndfnnmdaaaDoorHashJ
namespace Go.Proofs.YtnlphndfnnmdaaaDoor
open Go.RowKit Go.Cv Go.Cv.Hash
theorem cuts_w (A : Option Addr) (n cap : Nat) (l : List UInt8) (x1 x2 : Int) (w : World) (hT : Tabs w) (hl : ArgB w A n cap l) (_ : (Lit.int .i64 x1).wf = true) (_ : (Lit.int .i64 x2).wf = true) (bnd : cap ≤ 1048576) :
    Calls Tryd.prog 5 #[.slice A n cap, .int .i64 x1, .int .i64 x2] w fun e w' => e = .returned (.bool true) ∧ Ext w w' :=
  cuts_any A n cap l x1 x2 w hT hl bnd
end Go.Proofs.YtnlphndfnnmdaaaDoor
