/-
  HashPieces as its closing text takes it.
-/
import Derived.Test.YtnlphndfnnmdaaaDoorHashX
namespace Go.Proofs.YtnlphndfnnmdaaaDoor
open Go.RowKit Go.Cv Go.Cv.Hash
theorem pieces_w (A : Option Addr) (n cap : Nat) (R : List (List UInt8)) (wide : Bool) (w : World) (hT : Tabs w) (hB : ArgBB w A n cap R) (hm : (n + (R.map List.length).sum) ≤ 1048576) :
    Calls Tryd.prog 4 #[.slice A n cap, .bool wide] w fun e w' => e = .returned (.bool true) ∧ Ext w w' := by
  cases wide
  · exact pieces_32 A n cap R w hT hB hm
  · exact pieces_64 A n cap R w hT hB hm
end Go.Proofs.YtnlphndfnnmdaaaDoor
