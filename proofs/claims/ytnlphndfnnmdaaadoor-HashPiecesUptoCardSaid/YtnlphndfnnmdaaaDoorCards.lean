/-
  DERIVED. GIVEN WITH THE SEED: THE CARDS: each row of YtnlphndfnnmdaaaDoorRows.lean that lists a variable, with what it lists TIED to the program's text (the seventh form; the later family's looks); each row that meets fmt, with fmt's text TOLD by the authors' own Lean function (tested against real Go, not proved from fmt's source: count such statements apart). THE CARD IS WHAT COUNTS. Prove the row's statement (the work); the ties are given (YtnlphndfnnmdaaaDoorTie.lean); close each card by the builder's one call (the guide's Derived/Test/ToyasCard.lean, 'card_holds'). Laid BY PROGRAM, IN A SANDBOX (cutbox-door.mjs). By AI agents, Wed Nov 11 2026. No macro, syntax, notation, axiom, sorry.
-/
import Derived.Test.YtnlphndfnnmdaaaDoorRows
import GoSem.ClaimSeven
namespace Go.Proofs.YtnlphndfnnmdaaaDoor
namespace Rows

/-- THE TIED CARD OF 'coveylaw05.HashSums'. -/
def hashSumsCard : Claim7 := { stood := { row := hashSumsRow, standIns := [], harness := (true, "7a769b461b697984e74d457a338198e77868485247e33245c16defd23ec24edd"), looks := true }, kinds := [], alts := [], laidByText := true, laidKinds := [.widerDeep, .widerDeep, .data, .data], laidTests := true, laidLooks := .later }
def HashSumsCardSaid : Prop := Claim7.holds Tryd.pinned (.plain (OpenSpec.ofChange hashSumsSpec)) hashSumsCard

/-- THE TIED CARD OF 'coveylaw05.HashPieces'. -/
def hashPiecesCard : Claim7 := { stood := { row := hashPiecesRow, standIns := [], harness := (true, "7a769b461b697984e74d457a338198e77868485247e33245c16defd23ec24edd"), looks := true }, kinds := [], alts := [], laidByText := true, laidKinds := [.widerDeep, .widerDeep, .data, .data], laidTests := true, laidLooks := .later }
def HashPiecesCardSaid : Prop := Claim7.holds Tryd.pinned (.plain (OpenSpec.ofChange hashPiecesSpec)) hashPiecesCard

/-- THE TIED CARD OF 'coveylaw05.HashCuts'. -/
def hashCutsCard : Claim7 := { stood := { row := hashCutsRow, standIns := [], harness := (true, "7a769b461b697984e74d457a338198e77868485247e33245c16defd23ec24edd"), looks := true }, kinds := [], alts := [], laidByText := true, laidKinds := [.widerDeep, .widerDeep, .data, .data], laidTests := true, laidLooks := .later }
def HashCutsCardSaid : Prop := Claim7.holds Tryd.pinned (.plain (OpenSpec.ofChange hashCutsSpec)) hashCutsCard

/-- THE SECOND FORM's CARD OF 'coveylaw05.HashSums'. -/
def hashSumsUptoCard : Claim7 := { stood := { row := hashSumsUptoRow, standIns := [], harness := (true, "7a769b461b697984e74d457a338198e77868485247e33245c16defd23ec24edd"), looks := true }, kinds := [], alts := [], laidByText := true, laidKinds := [.widerDeep, .widerDeep, .data, .data], laidTests := true, laidLooks := .later }
def HashSumsUptoCardSaid : Prop := Claim7.holds Tryd.pinned (.plain (OpenSpec.upto hashSumsSpec)) hashSumsUptoCard

/-- THE SECOND FORM's CARD OF 'coveylaw05.HashPieces'. -/
def hashPiecesUptoCard : Claim7 := { stood := { row := hashPiecesUptoRow, standIns := [], harness := (true, "7a769b461b697984e74d457a338198e77868485247e33245c16defd23ec24edd"), looks := true }, kinds := [], alts := [], laidByText := true, laidKinds := [.widerDeep, .widerDeep, .data, .data], laidTests := true, laidLooks := .later }
def HashPiecesUptoCardSaid : Prop := Claim7.holds Tryd.pinned (.plain (OpenSpec.upto hashPiecesSpec)) hashPiecesUptoCard

/-- THE SECOND FORM's CARD OF 'coveylaw05.HashCuts'. -/
def hashCutsUptoCard : Claim7 := { stood := { row := hashCutsUptoRow, standIns := [], harness := (true, "7a769b461b697984e74d457a338198e77868485247e33245c16defd23ec24edd"), looks := true }, kinds := [], alts := [], laidByText := true, laidKinds := [.widerDeep, .widerDeep, .data, .data], laidTests := true, laidLooks := .later }
def HashCutsUptoCardSaid : Prop := Claim7.holds Tryd.pinned (.plain (OpenSpec.upto hashCutsSpec)) hashCutsUptoCard
end Rows
end Go.Proofs.YtnlphndfnnmdaaaDoor
