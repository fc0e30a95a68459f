/-
  DERIVED. GIVEN WITH THE SEED: THE CARDS: each row of YthdniboajbhhiaaDoorRows.lean that lists a variable, with what it lists TIED to the program's text (the seventh form; the later family's looks); each row that meets fmt, with fmt's text TOLD by the authors' own Lean function (tested against real Go, not proved from fmt's source: count such statements apart). THE CARD IS WHAT COUNTS. Prove the row's statement (the work); the ties are given (YthdniboajbhhiaaDoorTie.lean); close each card by the builder's one call (the guide's Derived/Test/ToyasCard.lean, 'card_holds'). Laid BY PROGRAM, IN A SANDBOX (cutbox-door.mjs). By AI agents, Wed Nov 11 2026. No macro, syntax, notation, axiom, sorry.
-/
import Derived.Test.YthdniboajbhhiaaDoorRows
import GoSem.ClaimSeven
namespace Go.Proofs.YthdniboajbhhiaaDoor
namespace Rows

/-- THE TIED CARD OF 'coveylaw01.UtfCmps'. -/
def utfCmpsCard : Claim7 := { stood := { row := utfCmpsRow, standIns := [], harness := (true, "173a79bd0148b0b0006436a6501ebb938e03057ae1461c3cf8731fa2abc33872"), looks := true }, kinds := [], alts := [], laidByText := true, laidKinds := [.data, .pinned], laidTests := true, laidLooks := .later }
def UtfCmpsCardSaid : Prop := Claim7.holds Tryd.pinned (.plain (OpenSpec.ofChange utfCmpsSpec)) utfCmpsCard

/-- THE TIED CARD OF 'coveylaw01.UtfPairs'. -/
def utfPairsCard : Claim7 := { stood := { row := utfPairsRow, standIns := [], harness := (true, "173a79bd0148b0b0006436a6501ebb938e03057ae1461c3cf8731fa2abc33872"), looks := true }, kinds := [], alts := [], laidByText := true, laidKinds := [.data, .pinned], laidTests := true, laidLooks := .later }
def UtfPairsCardSaid : Prop := Claim7.holds Tryd.pinned (.plain (OpenSpec.ofChange utfPairsSpec)) utfPairsCard

/-- THE TIED CARD OF 'coveylaw01.UtfBack'. -/
def utfBackCard : Claim7 := { stood := { row := utfBackRow, standIns := [], harness := (true, "173a79bd0148b0b0006436a6501ebb938e03057ae1461c3cf8731fa2abc33872"), looks := true }, kinds := [], alts := [], laidByText := true, laidKinds := [.data, .pinned], laidTests := true, laidLooks := .later }
def UtfBackCardSaid : Prop := Claim7.holds Tryd.pinned (.plain (OpenSpec.ofChange utfBackSpec)) utfBackCard

/-- THE TIED CARD OF 'coveylaw01.UtfPoints'. -/
def utfPointsCard : Claim7 := { stood := { row := utfPointsRow, standIns := [], harness := (true, "173a79bd0148b0b0006436a6501ebb938e03057ae1461c3cf8731fa2abc33872"), looks := true }, kinds := [], alts := [], laidByText := true, laidKinds := [.data, .handle, .pinned], laidTests := true, laidLooks := .later }
def UtfPointsCardSaid : Prop := Claim7.holds Tryd.pinned (.plain (OpenSpec.ofChange utfPointsSpec)) utfPointsCard

/-- THE TIED CARD OF 'coveylaw01.UtfCuts'. -/
def utfCutsCard : Claim7 := { stood := { row := utfCutsRow, standIns := [], harness := (true, "173a79bd0148b0b0006436a6501ebb938e03057ae1461c3cf8731fa2abc33872"), looks := true }, kinds := [], alts := [], laidByText := true, laidKinds := [.data, .handle, .pinned], laidTests := true, laidLooks := .later }
def UtfCutsCardSaid : Prop := Claim7.holds Tryd.pinned (.plain (OpenSpec.ofChange utfCutsSpec)) utfCutsCard

/-- THE TIED CARD OF 'coveylaw01.UtfTexts'. -/
def utfTextsCard : Claim7 := { stood := { row := utfTextsRow, standIns := [], harness := (true, "173a79bd0148b0b0006436a6501ebb938e03057ae1461c3cf8731fa2abc33872"), looks := true }, kinds := [], alts := [], laidByText := true, laidKinds := [.data, .handle, .pinned], laidTests := true, laidLooks := .later }
def UtfTextsCardSaid : Prop := Claim7.holds Tryd.pinned (.plain (OpenSpec.ofChange utfTextsSpec)) utfTextsCard

/-- THE SECOND FORM's CARD OF 'coveylaw01.UtfCmps'. -/
def utfCmpsUptoCard : Claim7 := { stood := { row := utfCmpsUptoRow, standIns := [], harness := (true, "173a79bd0148b0b0006436a6501ebb938e03057ae1461c3cf8731fa2abc33872"), looks := true }, kinds := [], alts := [], laidByText := true, laidKinds := [.data, .pinned], laidTests := true, laidLooks := .later }
def UtfCmpsUptoCardSaid : Prop := Claim7.holds Tryd.pinned (.plain (OpenSpec.upto utfCmpsSpec)) utfCmpsUptoCard

/-- THE SECOND FORM's CARD OF 'coveylaw01.UtfPairs'. -/
def utfPairsUptoCard : Claim7 := { stood := { row := utfPairsUptoRow, standIns := [], harness := (true, "173a79bd0148b0b0006436a6501ebb938e03057ae1461c3cf8731fa2abc33872"), looks := true }, kinds := [], alts := [], laidByText := true, laidKinds := [.data, .pinned], laidTests := true, laidLooks := .later }
def UtfPairsUptoCardSaid : Prop := Claim7.holds Tryd.pinned (.plain (OpenSpec.upto utfPairsSpec)) utfPairsUptoCard

/-- THE SECOND FORM's CARD OF 'coveylaw01.UtfBack'. -/
def utfBackUptoCard : Claim7 := { stood := { row := utfBackUptoRow, standIns := [], harness := (true, "173a79bd0148b0b0006436a6501ebb938e03057ae1461c3cf8731fa2abc33872"), looks := true }, kinds := [], alts := [], laidByText := true, laidKinds := [.data, .pinned], laidTests := true, laidLooks := .later }
def UtfBackUptoCardSaid : Prop := Claim7.holds Tryd.pinned (.plain (OpenSpec.upto utfBackSpec)) utfBackUptoCard

/-- THE SECOND FORM's CARD OF 'coveylaw01.UtfPoints'. -/
def utfPointsUptoCard : Claim7 := { stood := { row := utfPointsUptoRow, standIns := [], harness := (true, "173a79bd0148b0b0006436a6501ebb938e03057ae1461c3cf8731fa2abc33872"), looks := true }, kinds := [], alts := [], laidByText := true, laidKinds := [.data, .handle, .pinned], laidTests := true, laidLooks := .later }
def UtfPointsUptoCardSaid : Prop := Claim7.holds Tryd.pinned (.plain (OpenSpec.upto utfPointsSpec)) utfPointsUptoCard

/-- THE SECOND FORM's CARD OF 'coveylaw01.UtfCuts'. -/
def utfCutsUptoCard : Claim7 := { stood := { row := utfCutsUptoRow, standIns := [], harness := (true, "173a79bd0148b0b0006436a6501ebb938e03057ae1461c3cf8731fa2abc33872"), looks := true }, kinds := [], alts := [], laidByText := true, laidKinds := [.data, .handle, .pinned], laidTests := true, laidLooks := .later }
def UtfCutsUptoCardSaid : Prop := Claim7.holds Tryd.pinned (.plain (OpenSpec.upto utfCutsSpec)) utfCutsUptoCard

/-- THE SECOND FORM's CARD OF 'coveylaw01.UtfTexts'. -/
def utfTextsUptoCard : Claim7 := { stood := { row := utfTextsUptoRow, standIns := [], harness := (true, "173a79bd0148b0b0006436a6501ebb938e03057ae1461c3cf8731fa2abc33872"), looks := true }, kinds := [], alts := [], laidByText := true, laidKinds := [.data, .handle, .pinned], laidTests := true, laidLooks := .later }
def UtfTextsUptoCardSaid : Prop := Claim7.holds Tryd.pinned (.plain (OpenSpec.upto utfTextsSpec)) utfTextsUptoCard
end Rows
end Go.Proofs.YthdniboajbhhiaaDoor
