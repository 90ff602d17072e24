/-
  DERIVED. GIVEN WITH THE SEED: THE CARDS: each row of YtkiljhlbeffnfaaDoorRows.lean that lists a variable, with what it lists TIED to the program's text (the seventh form; the later family's looks); each row that meets fmt, with fmt's text TOLD by the authors' own Lean function (tested against real Go, not proved from fmt's source: count such statements apart). THE CARD IS WHAT COUNTS. Prove the row's statement (the work); the ties are given (YtkiljhlbeffnfaaDoorTie.lean); close each card by the builder's one call (the guide's Derived/Test/ToyasCard.lean, 'card_holds'). Laid BY PROGRAM, IN A SANDBOX (cutbox-door.mjs). By AI agents, Wed Nov 11 2026. No macro, syntax, notation, axiom, sorry.
-/
import Derived.Test.YtkiljhlbeffnfaaDoorRows
import GoSem.ClaimSeven
namespace Go.Proofs.YtkiljhlbeffnfaaDoor
namespace Rows

/-- THE TIED CARD OF 'martellolaw01.InputsBytes'. -/
def inputsBytesCard : Claim7 := { stood := { row := inputsBytesRow, standIns := [], harness := (true, "e4da62c3260b1233ca88aa50a5489c4adf7e45d8141ad76fcfca03200dcf0a87"), looks := false }, kinds := [], alts := [], laidByText := true, laidKinds := [.data, .pinned], laidTests := true, laidLooks := .later }
def InputsBytesCardSaid : Prop := Claim7.holds Tryd.pinned (.plain (OpenSpec.ofChange inputsBytesSpec)) inputsBytesCard

/-- THE TIED CARD OF 'martellolaw01.InputsRunes'. -/
def inputsRunesCard : Claim7 := { stood := { row := inputsRunesRow, standIns := [], harness := (true, "e4da62c3260b1233ca88aa50a5489c4adf7e45d8141ad76fcfca03200dcf0a87"), looks := false }, kinds := [], alts := [], laidByText := true, laidKinds := [.data, .pinned], laidTests := true, laidLooks := .later }
def InputsRunesCardSaid : Prop := Claim7.holds Tryd.pinned (.plain (OpenSpec.ofChange inputsRunesSpec)) inputsRunesCard

/-- THE TIED CARD OF 'martellolaw01.InputsPlaces'. -/
def inputsPlacesCard : Claim7 := { stood := { row := inputsPlacesRow, standIns := [], harness := (true, "e4da62c3260b1233ca88aa50a5489c4adf7e45d8141ad76fcfca03200dcf0a87"), looks := false }, kinds := [], alts := [], laidByText := true, laidKinds := [.data, .pinned], laidTests := true, laidLooks := .later }
def InputsPlacesCardSaid : Prop := Claim7.holds Tryd.pinned (.plain (OpenSpec.ofChange inputsPlacesSpec)) inputsPlacesCard

/-- THE TIED CARD OF 'martellolaw01.InputsKinds'. -/
def inputsKindsCard : Claim7 := { stood := { row := inputsKindsRow, standIns := [], harness := (true, "e4da62c3260b1233ca88aa50a5489c4adf7e45d8141ad76fcfca03200dcf0a87"), looks := false }, kinds := [], alts := [], laidByText := true, laidKinds := [.data, .pinned], laidTests := true, laidLooks := .later }
def InputsKindsCardSaid : Prop := Claim7.holds Tryd.pinned (.plain (OpenSpec.ofChange inputsKindsSpec)) inputsKindsCard

/-- THE TIED CARD OF 'martellolaw01.InputsLines'. -/
def inputsLinesCard : Claim7 := { stood := { row := inputsLinesRow, standIns := [], harness := (true, "e4da62c3260b1233ca88aa50a5489c4adf7e45d8141ad76fcfca03200dcf0a87"), looks := false }, kinds := [], alts := [], laidByText := true, laidKinds := [.data, .pinned], laidTests := true, laidLooks := .later }
def InputsLinesCardSaid : Prop := Claim7.holds Tryd.pinned (.plain (OpenSpec.ofChange inputsLinesSpec)) inputsLinesCard

/-- THE TIED CARD OF 'martellolaw01.InputsTurned'. -/
def inputsTurnedCard : Claim7 := { stood := { row := inputsTurnedRow, standIns := [], harness := (true, "e4da62c3260b1233ca88aa50a5489c4adf7e45d8141ad76fcfca03200dcf0a87"), looks := false }, kinds := [], alts := [], laidByText := true, laidKinds := [.data, .pinned], laidTests := true, laidLooks := .later }
def InputsTurnedCardSaid : Prop := Claim7.holds Tryd.pinned (.plain (OpenSpec.ofChange inputsTurnedSpec)) inputsTurnedCard

/-- THE TIED CARD OF 'martellolaw01.InputsWhole'. -/
def inputsWholeCard : Claim7 := { stood := { row := inputsWholeRow, standIns := [], harness := (true, "e4da62c3260b1233ca88aa50a5489c4adf7e45d8141ad76fcfca03200dcf0a87"), looks := false }, kinds := [], alts := [], laidByText := true, laidKinds := [.data, .pinned], laidTests := true, laidLooks := .later }
def InputsWholeCardSaid : Prop := Claim7.holds Tryd.pinned (.plain (OpenSpec.ofChange inputsWholeSpec)) inputsWholeCard

/-- THE SECOND FORM's CARD OF 'martellolaw01.InputsBytes'. -/
def inputsBytesUptoCard : Claim7 := { stood := { row := inputsBytesUptoRow, standIns := [], harness := (true, "e4da62c3260b1233ca88aa50a5489c4adf7e45d8141ad76fcfca03200dcf0a87"), looks := false }, kinds := [], alts := [], laidByText := true, laidKinds := [.data, .pinned], laidTests := true, laidLooks := .later }
def InputsBytesUptoCardSaid : Prop := Claim7.holds Tryd.pinned (.plain (OpenSpec.upto inputsBytesSpec)) inputsBytesUptoCard

/-- THE SECOND FORM's CARD OF 'martellolaw01.InputsRunes'. -/
def inputsRunesUptoCard : Claim7 := { stood := { row := inputsRunesUptoRow, standIns := [], harness := (true, "e4da62c3260b1233ca88aa50a5489c4adf7e45d8141ad76fcfca03200dcf0a87"), looks := false }, kinds := [], alts := [], laidByText := true, laidKinds := [.data, .pinned], laidTests := true, laidLooks := .later }
def InputsRunesUptoCardSaid : Prop := Claim7.holds Tryd.pinned (.plain (OpenSpec.upto inputsRunesSpec)) inputsRunesUptoCard

/-- THE SECOND FORM's CARD OF 'martellolaw01.InputsPlaces'. -/
def inputsPlacesUptoCard : Claim7 := { stood := { row := inputsPlacesUptoRow, standIns := [], harness := (true, "e4da62c3260b1233ca88aa50a5489c4adf7e45d8141ad76fcfca03200dcf0a87"), looks := false }, kinds := [], alts := [], laidByText := true, laidKinds := [.data, .pinned], laidTests := true, laidLooks := .later }
def InputsPlacesUptoCardSaid : Prop := Claim7.holds Tryd.pinned (.plain (OpenSpec.upto inputsPlacesSpec)) inputsPlacesUptoCard

/-- THE SECOND FORM's CARD OF 'martellolaw01.InputsKinds'. -/
def inputsKindsUptoCard : Claim7 := { stood := { row := inputsKindsUptoRow, standIns := [], harness := (true, "e4da62c3260b1233ca88aa50a5489c4adf7e45d8141ad76fcfca03200dcf0a87"), looks := false }, kinds := [], alts := [], laidByText := true, laidKinds := [.data, .pinned], laidTests := true, laidLooks := .later }
def InputsKindsUptoCardSaid : Prop := Claim7.holds Tryd.pinned (.plain (OpenSpec.upto inputsKindsSpec)) inputsKindsUptoCard

/-- THE SECOND FORM's CARD OF 'martellolaw01.InputsLines'. -/
def inputsLinesUptoCard : Claim7 := { stood := { row := inputsLinesUptoRow, standIns := [], harness := (true, "e4da62c3260b1233ca88aa50a5489c4adf7e45d8141ad76fcfca03200dcf0a87"), looks := false }, kinds := [], alts := [], laidByText := true, laidKinds := [.data, .pinned], laidTests := true, laidLooks := .later }
def InputsLinesUptoCardSaid : Prop := Claim7.holds Tryd.pinned (.plain (OpenSpec.upto inputsLinesSpec)) inputsLinesUptoCard

/-- THE SECOND FORM's CARD OF 'martellolaw01.InputsTurned'. -/
def inputsTurnedUptoCard : Claim7 := { stood := { row := inputsTurnedUptoRow, standIns := [], harness := (true, "e4da62c3260b1233ca88aa50a5489c4adf7e45d8141ad76fcfca03200dcf0a87"), looks := false }, kinds := [], alts := [], laidByText := true, laidKinds := [.data, .pinned], laidTests := true, laidLooks := .later }
def InputsTurnedUptoCardSaid : Prop := Claim7.holds Tryd.pinned (.plain (OpenSpec.upto inputsTurnedSpec)) inputsTurnedUptoCard

/-- THE SECOND FORM's CARD OF 'martellolaw01.InputsWhole'. -/
def inputsWholeUptoCard : Claim7 := { stood := { row := inputsWholeUptoRow, standIns := [], harness := (true, "e4da62c3260b1233ca88aa50a5489c4adf7e45d8141ad76fcfca03200dcf0a87"), looks := false }, kinds := [], alts := [], laidByText := true, laidKinds := [.data, .pinned], laidTests := true, laidLooks := .later }
def InputsWholeUptoCardSaid : Prop := Claim7.holds Tryd.pinned (.plain (OpenSpec.upto inputsWholeSpec)) inputsWholeUptoCard
end Rows
end Go.Proofs.YtkiljhlbeffnfaaDoor
