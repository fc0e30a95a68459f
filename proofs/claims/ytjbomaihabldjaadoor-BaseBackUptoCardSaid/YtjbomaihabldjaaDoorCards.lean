/-
  DERIVED. GIVEN WITH THE SEED: THE CARDS: each row of YtjbomaihabldjaaDoorRows.lean that lists a variable, with what it lists TIED to the program's text (the seventh form; the later family's looks); each row that meets fmt, with fmt's text TOLD by the authors' own Lean function (tested against real Go, not proved from fmt's source: count such statements apart). THE CARD IS WHAT COUNTS. Prove the row's statement (the work); the ties are given (YtjbomaihabldjaaDoorTie.lean); close each card by the builder's one call (the guide's Derived/Test/ToyasCard.lean, 'card_holds'). Laid BY PROGRAM, IN A SANDBOX (cutbox-door.mjs). By AI agents, Wed Nov 11 2026. No macro, syntax, notation, axiom, sorry.
-/
import Derived.Test.YtjbomaihabldjaaDoorRows
import GoSem.ClaimSeven
namespace Go.Proofs.YtjbomaihabldjaaDoor
namespace Rows

/-- THE TIED CARD OF 'coveylaw04.BaseEncodes'. -/
def baseEncodesCard : Claim7 := { stood := { row := baseEncodesRow, standIns := [], harness := (true, "5e9de26cca13317adfe2feacbf08d3794754dacc89a1ae5022d41c2f6f1d130f"), looks := true }, kinds := [], alts := [], laidByText := true, laidKinds := [.handle], laidTests := true, laidLooks := .later }
def BaseEncodesCardSaid : Prop := Claim7.holds Tryd.pinned (.plain (OpenSpec.ofChange baseEncodesSpec)) baseEncodesCard

/-- THE TIED CARD OF 'coveylaw04.BaseDecodes'. -/
def baseDecodesCard : Claim7 := { stood := { row := baseDecodesRow, standIns := [], harness := (true, "5e9de26cca13317adfe2feacbf08d3794754dacc89a1ae5022d41c2f6f1d130f"), looks := true }, kinds := [], alts := [], laidByText := true, laidKinds := [.handle], laidTests := true, laidLooks := .later }
def BaseDecodesCardSaid : Prop := Claim7.holds Tryd.pinned (.plain (OpenSpec.ofChange baseDecodesSpec)) baseDecodesCard

/-- THE TIED CARD OF 'coveylaw04.BaseBack'. -/
def baseBackCard : Claim7 := { stood := { row := baseBackRow, standIns := [], harness := (true, "5e9de26cca13317adfe2feacbf08d3794754dacc89a1ae5022d41c2f6f1d130f"), looks := true }, kinds := [], alts := [], laidByText := true, laidKinds := [.handle], laidTests := true, laidLooks := .later }
def BaseBackCardSaid : Prop := Claim7.holds Tryd.pinned (.plain (OpenSpec.ofChange baseBackSpec)) baseBackCard

/-- THE SECOND FORM's CARD OF 'coveylaw04.BaseEncodes'. -/
def baseEncodesUptoCard : Claim7 := { stood := { row := baseEncodesUptoRow, standIns := [], harness := (true, "5e9de26cca13317adfe2feacbf08d3794754dacc89a1ae5022d41c2f6f1d130f"), looks := true }, kinds := [], alts := [], laidByText := true, laidKinds := [.handle], laidTests := true, laidLooks := .later }
def BaseEncodesUptoCardSaid : Prop := Claim7.holds Tryd.pinned (.plain (OpenSpec.upto baseEncodesSpec)) baseEncodesUptoCard

/-- THE SECOND FORM's CARD OF 'coveylaw04.BaseDecodes'. -/
def baseDecodesUptoCard : Claim7 := { stood := { row := baseDecodesUptoRow, standIns := [], harness := (true, "5e9de26cca13317adfe2feacbf08d3794754dacc89a1ae5022d41c2f6f1d130f"), looks := true }, kinds := [], alts := [], laidByText := true, laidKinds := [.handle], laidTests := true, laidLooks := .later }
def BaseDecodesUptoCardSaid : Prop := Claim7.holds Tryd.pinned (.plain (OpenSpec.upto baseDecodesSpec)) baseDecodesUptoCard

/-- THE SECOND FORM's CARD OF 'coveylaw04.BaseBack'. -/
def baseBackUptoCard : Claim7 := { stood := { row := baseBackUptoRow, standIns := [], harness := (true, "5e9de26cca13317adfe2feacbf08d3794754dacc89a1ae5022d41c2f6f1d130f"), looks := true }, kinds := [], alts := [], laidByText := true, laidKinds := [.handle], laidTests := true, laidLooks := .later }
def BaseBackUptoCardSaid : Prop := Claim7.holds Tryd.pinned (.plain (OpenSpec.upto baseBackSpec)) baseBackUptoCard
end Rows
end Go.Proofs.YtjbomaihabldjaaDoor
