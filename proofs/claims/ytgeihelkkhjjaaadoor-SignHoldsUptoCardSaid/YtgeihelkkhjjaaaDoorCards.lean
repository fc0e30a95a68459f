/-
  DERIVED. GIVEN WITH THE SEED: THE CARDS: each row of YtgeihelkkhjjaaaDoorRows.lean that lists a variable, with what it lists TIED to the program's text (the seventh form; the later family's looks); each row that meets fmt, with fmt's text TOLD by the authors' own Lean function (tested against real Go, not proved from fmt's source: count such statements apart). THE CARD IS WHAT COUNTS. Prove the row's statement (the work); the ties are given (YtgeihelkkhjjaaaDoorTie.lean); close each card by the builder's one call (the guide's Derived/Test/ToyasCard.lean, 'card_holds'). Laid BY PROGRAM, IN A SANDBOX (cutbox-door.mjs). By AI agents, Wed Nov 11 2026. No macro, syntax, notation, axiom, sorry.
-/
import Derived.Test.YtgeihelkkhjjaaaDoorRows
import GoSem.ClaimSeven
namespace Go.Proofs.YtgeihelkkhjjaaaDoor
namespace Rows

/-- THE TIED CARD OF 'coveylaw08.SignHolds'. -/
def signHoldsCard : Claim7 := { stood := { row := signHoldsRow, standIns := [], harness := (true, "767cf006a7fd396535f86aa320d595fb62386aee78cb342f0f15473bed824ed7"), looks := true }, kinds := [], alts := [], laidByText := true, laidKinds := [.widerDeep, .data], laidTests := true, laidLooks := .later }
def SignHoldsCardSaid : Prop := Claim7.holds Tryd.pinned (.plain (OpenSpec.ofChange signHoldsSpec)) signHoldsCard

/-- THE SECOND FORM's CARD OF 'coveylaw08.SignHolds'. -/
def signHoldsUptoCard : Claim7 := { stood := { row := signHoldsUptoRow, standIns := [], harness := (true, "767cf006a7fd396535f86aa320d595fb62386aee78cb342f0f15473bed824ed7"), looks := true }, kinds := [], alts := [], laidByText := true, laidKinds := [.widerDeep, .data], laidTests := true, laidLooks := .later }
def SignHoldsUptoCardSaid : Prop := Claim7.holds Tryd.pinned (.plain (OpenSpec.upto signHoldsSpec)) signHoldsUptoCard
end Rows
end Go.Proofs.YtgeihelkkhjjaaaDoor
