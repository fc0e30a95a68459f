/-
  DERIVED. GIVEN WITH THE SEED: THE CARDS: each row of YtjnbbfhoegeppaaGreatDoorRows.lean that lists a variable, with what it lists TIED to the program's text (the seventh form; the later family's looks); each row that meets fmt, with fmt's text TOLD by the authors' own Lean function (tested against real Go, not proved from fmt's source: count such statements apart). THE CARD IS WHAT COUNTS. Prove the row's statement (the work); the ties are given (YtjnbbfhoegeppaaGreatDoorTie.lean); close each card by the builder's one call (the guide's Derived/Test/ToyasCard.lean, 'card_holds'). Laid BY PROGRAM, IN A SANDBOX (cutbox-door.mjs). By AI agents, Wed Nov 11 2026. No macro, syntax, notation, axiom, sorry.
-/
import Derived.Test.YtjnbbfhoegeppaaGreatDoorRows
import GoSem.ClaimSeven
namespace Go.Proofs.YtjnbbfhoegeppaaGreatDoor
namespace Rows

/-- THE TIED CARD OF 'coveylaw12.KvPlays'. -/
def kvPlaysCard : Claim7 := { stood := { row := kvPlaysRow, standIns := [], harness := (true, "a9569ce3e5e64e6505710fa14c64f641b644a4addf5996e8d4609b493817f109"), looks := true }, kinds := [], alts := [], laidByText := true, laidKinds := [.data, .pinned], laidTests := true, laidLooks := .later }
def KvPlaysCardSaid : Prop := Claim7.holds Tryz.pinned (.plain (OpenSpec.ofChange kvPlaysSpec)) kvPlaysCard

/-- THE TIED CARD OF 'coveylaw12.KvOpens'. -/
def kvOpensCard : Claim7 := { stood := { row := kvOpensRow, standIns := [], harness := (true, "a9569ce3e5e64e6505710fa14c64f641b644a4addf5996e8d4609b493817f109"), looks := true }, kinds := [], alts := [], laidByText := true, laidKinds := [.data, .pinned], laidTests := true, laidLooks := .later }
def KvOpensCardSaid : Prop := Claim7.holds Tryz.pinned (.plain (OpenSpec.ofChange kvOpensSpec)) kvOpensCard

/-- THE TIED CARD OF 'coveylaw12.KvFull'. -/
def kvFullCard : Claim7 := { stood := { row := kvFullRow, standIns := [], harness := (true, "a9569ce3e5e64e6505710fa14c64f641b644a4addf5996e8d4609b493817f109"), looks := true }, kinds := [], alts := [], laidByText := true, laidKinds := [.data, .pinned], laidTests := true, laidLooks := .later }
def KvFullCardSaid : Prop := Claim7.holds Tryz.pinned (.plain (OpenSpec.ofChange kvFullSpec)) kvFullCard

/-- THE TIED CARD OF 'coveylaw12.KvCuts'. -/
def kvCutsCard : Claim7 := { stood := { row := kvCutsRow, standIns := [], harness := (true, "a9569ce3e5e64e6505710fa14c64f641b644a4addf5996e8d4609b493817f109"), looks := true }, kinds := [], alts := [], laidByText := true, laidKinds := [.data, .pinned], laidTests := true, laidLooks := .later }
def KvCutsCardSaid : Prop := Claim7.holds Tryz.pinned (.plain (OpenSpec.ofChange kvCutsSpec)) kvCutsCard

/-- THE SECOND FORM's CARD OF 'coveylaw12.KvPlays'. -/
def kvPlaysUptoCard : Claim7 := { stood := { row := kvPlaysUptoRow, standIns := [], harness := (true, "a9569ce3e5e64e6505710fa14c64f641b644a4addf5996e8d4609b493817f109"), looks := true }, kinds := [], alts := [], laidByText := true, laidKinds := [.data, .pinned], laidTests := true, laidLooks := .later }
def KvPlaysUptoCardSaid : Prop := Claim7.holds Tryz.pinned (.plain (OpenSpec.upto kvPlaysSpec)) kvPlaysUptoCard

/-- THE SECOND FORM's CARD OF 'coveylaw12.KvOpens'. -/
def kvOpensUptoCard : Claim7 := { stood := { row := kvOpensUptoRow, standIns := [], harness := (true, "a9569ce3e5e64e6505710fa14c64f641b644a4addf5996e8d4609b493817f109"), looks := true }, kinds := [], alts := [], laidByText := true, laidKinds := [.data, .pinned], laidTests := true, laidLooks := .later }
def KvOpensUptoCardSaid : Prop := Claim7.holds Tryz.pinned (.plain (OpenSpec.upto kvOpensSpec)) kvOpensUptoCard

/-- THE SECOND FORM's CARD OF 'coveylaw12.KvFull'. -/
def kvFullUptoCard : Claim7 := { stood := { row := kvFullUptoRow, standIns := [], harness := (true, "a9569ce3e5e64e6505710fa14c64f641b644a4addf5996e8d4609b493817f109"), looks := true }, kinds := [], alts := [], laidByText := true, laidKinds := [.data, .pinned], laidTests := true, laidLooks := .later }
def KvFullUptoCardSaid : Prop := Claim7.holds Tryz.pinned (.plain (OpenSpec.upto kvFullSpec)) kvFullUptoCard

/-- THE SECOND FORM's CARD OF 'coveylaw12.KvCuts'. -/
def kvCutsUptoCard : Claim7 := { stood := { row := kvCutsUptoRow, standIns := [], harness := (true, "a9569ce3e5e64e6505710fa14c64f641b644a4addf5996e8d4609b493817f109"), looks := true }, kinds := [], alts := [], laidByText := true, laidKinds := [.data, .pinned], laidTests := true, laidLooks := .later }
def KvCutsUptoCardSaid : Prop := Claim7.holds Tryz.pinned (.plain (OpenSpec.upto kvCutsSpec)) kvCutsUptoCard
end Rows
end Go.Proofs.YtjnbbfhoegeppaaGreatDoor
