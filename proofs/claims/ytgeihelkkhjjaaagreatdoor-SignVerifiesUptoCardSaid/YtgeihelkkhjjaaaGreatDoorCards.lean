/-
  DERIVED. GIVEN WITH THE SEED: THE CARDS: each row of YtgeihelkkhjjaaaGreatDoorRows.lean that lists a variable, with what it lists TIED to the program's text (the seventh form; the later family's looks); each row that meets fmt, with fmt's text TOLD by the authors' own Lean function (tested against real Go, not proved from fmt's source: count such statements apart). THE CARD IS WHAT COUNTS. Prove the row's statement (the work); the ties are given (YtgeihelkkhjjaaaGreatDoorTie.lean); close each card by the builder's one call (the guide's Derived/Test/ToyasCard.lean, 'card_holds'). Laid BY PROGRAM, IN A SANDBOX (cutbox-door.mjs). By AI agents, Wed Nov 11 2026. No macro, syntax, notation, axiom, sorry.
-/
import Derived.Test.YtgeihelkkhjjaaaGreatDoorRows
import GoSem.ClaimSeven
namespace Go.Proofs.YtgeihelkkhjjaaaGreatDoor
namespace Rows

/-- THE TIED CARD OF 'coveylaw08.SignSigns'. -/
def signSignsCard : Claim7 := { stood := { row := signSignsRow, standIns := [], harness := (true, "b6eb6224edf59b1fc7a0377872881aab3ee340e51358971c1bdbe327517c3bf0"), looks := true }, kinds := [], alts := [], laidByText := true, laidKinds := [.widerDeep, .data], laidTests := true, laidLooks := .later }
def SignSignsCardSaid : Prop := Claim7.holds Tryz.pinned (.plain (OpenSpec.ofChange signSignsSpec)) signSignsCard

/-- THE TIED CARD OF 'coveylaw08.SignVerifies'. -/
def signVerifiesCard : Claim7 := { stood := { row := signVerifiesRow, standIns := [], harness := (true, "b6eb6224edf59b1fc7a0377872881aab3ee340e51358971c1bdbe327517c3bf0"), looks := true }, kinds := [], alts := [], laidByText := true, laidKinds := [.widerDeep, .data], laidTests := true, laidLooks := .later }
def SignVerifiesCardSaid : Prop := Claim7.holds Tryz.pinned (.plain (OpenSpec.ofChange signVerifiesSpec)) signVerifiesCard

/-- THE SECOND FORM's CARD OF 'coveylaw08.SignSigns'. -/
def signSignsUptoCard : Claim7 := { stood := { row := signSignsUptoRow, standIns := [], harness := (true, "b6eb6224edf59b1fc7a0377872881aab3ee340e51358971c1bdbe327517c3bf0"), looks := true }, kinds := [], alts := [], laidByText := true, laidKinds := [.widerDeep, .data], laidTests := true, laidLooks := .later }
def SignSignsUptoCardSaid : Prop := Claim7.holds Tryz.pinned (.plain (OpenSpec.upto signSignsSpec)) signSignsUptoCard

/-- THE SECOND FORM's CARD OF 'coveylaw08.SignVerifies'. -/
def signVerifiesUptoCard : Claim7 := { stood := { row := signVerifiesUptoRow, standIns := [], harness := (true, "b6eb6224edf59b1fc7a0377872881aab3ee340e51358971c1bdbe327517c3bf0"), looks := true }, kinds := [], alts := [], laidByText := true, laidKinds := [.widerDeep, .data], laidTests := true, laidLooks := .later }
def SignVerifiesUptoCardSaid : Prop := Claim7.holds Tryz.pinned (.plain (OpenSpec.upto signVerifiesSpec)) signVerifiesUptoCard
end Rows
end Go.Proofs.YtgeihelkkhjjaaaGreatDoor
