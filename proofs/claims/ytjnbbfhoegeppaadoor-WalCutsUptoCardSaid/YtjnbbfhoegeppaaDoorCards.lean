/-
  DERIVED. GIVEN WITH THE SEED: THE CARDS: each row of YtjnbbfhoegeppaaDoorRows.lean that lists a variable, with what it lists TIED to the program's text (the seventh form; the later family's looks); each row that meets fmt, with fmt's text TOLD by the authors' own Lean function (tested against real Go, not proved from fmt's source: count such statements apart). THE CARD IS WHAT COUNTS. Prove the row's statement (the work); the ties are given (YtjnbbfhoegeppaaDoorTie.lean); close each card by the builder's one call (the guide's Derived/Test/ToyasCard.lean, 'card_holds'). Laid BY PROGRAM, IN A SANDBOX (cutbox-door.mjs). By AI agents, Wed Nov 11 2026. No macro, syntax, notation, axiom, sorry.
-/
import Derived.Test.YtjnbbfhoegeppaaDoorRows
import GoSem.ClaimSeven
namespace Go.Proofs.YtjnbbfhoegeppaaDoor
namespace Rows

/-- THE TIED CARD OF 'coveylaw11.WalOpens'. -/
def walOpensCard : Claim7 := { stood := { row := walOpensRow, standIns := [], harness := (true, "e04ee9749294bb8f9148c9afbf31b35c957b76f5d610f86c727cd4ef4ef7cfda"), looks := true }, kinds := [], alts := [], laidByText := true, laidKinds := [.data, .pinned], laidTests := true, laidLooks := .later }
def WalOpensCardSaid : Prop := Claim7.holds Tryd.pinned (.plain (OpenSpec.ofChange walOpensSpec)) walOpensCard

/-- THE TIED CARD OF 'coveylaw11.WalCuts'. -/
def walCutsCard : Claim7 := { stood := { row := walCutsRow, standIns := [], harness := (true, "e04ee9749294bb8f9148c9afbf31b35c957b76f5d610f86c727cd4ef4ef7cfda"), looks := true }, kinds := [], alts := [], laidByText := true, laidKinds := [.data, .pinned], laidTests := true, laidLooks := .later }
def WalCutsCardSaid : Prop := Claim7.holds Tryd.pinned (.plain (OpenSpec.ofChange walCutsSpec)) walCutsCard

/-- THE SECOND FORM's CARD OF 'coveylaw11.WalOpens'. -/
def walOpensUptoCard : Claim7 := { stood := { row := walOpensUptoRow, standIns := [], harness := (true, "e04ee9749294bb8f9148c9afbf31b35c957b76f5d610f86c727cd4ef4ef7cfda"), looks := true }, kinds := [], alts := [], laidByText := true, laidKinds := [.data, .pinned], laidTests := true, laidLooks := .later }
def WalOpensUptoCardSaid : Prop := Claim7.holds Tryd.pinned (.plain (OpenSpec.upto walOpensSpec)) walOpensUptoCard

/-- THE SECOND FORM's CARD OF 'coveylaw11.WalCuts'. -/
def walCutsUptoCard : Claim7 := { stood := { row := walCutsUptoRow, standIns := [], harness := (true, "e04ee9749294bb8f9148c9afbf31b35c957b76f5d610f86c727cd4ef4ef7cfda"), looks := true }, kinds := [], alts := [], laidByText := true, laidKinds := [.data, .pinned], laidTests := true, laidLooks := .later }
def WalCutsUptoCardSaid : Prop := Claim7.holds Tryd.pinned (.plain (OpenSpec.upto walCutsSpec)) walCutsUptoCard
end Rows
end Go.Proofs.YtjnbbfhoegeppaaDoor
