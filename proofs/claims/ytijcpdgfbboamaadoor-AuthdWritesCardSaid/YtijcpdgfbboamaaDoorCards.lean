/-
  DERIVED. GIVEN WITH THE SEED: THE CARDS: each row of YtijcpdgfbboamaaDoorRows.lean that lists a variable, with what it lists TIED to the program's text (the seventh form; the later family's looks); each row that meets fmt, with fmt's text TOLD by the authors' own Lean function (tested against real Go, not proved from fmt's source: count such statements apart). THE CARD IS WHAT COUNTS. Prove the row's statement (the work); the ties are given (YtijcpdgfbboamaaDoorTie.lean); close each card by the builder's one call (the guide's Derived/Test/ToyasCard.lean, 'card_holds'). Laid BY PROGRAM, IN A SANDBOX (cutbox-door.mjs). By AI agents, Wed Nov 11 2026. No macro, syntax, notation, axiom, sorry.
-/
import Derived.Test.YtijcpdgfbboamaaDoorRows
import GoSem.ClaimSeven
namespace Go.Proofs.YtijcpdgfbboamaaDoor
namespace Rows

/-- THE TIED CARD OF 'latchkeylaw06.CborDecodes'. -/
def cborDecodesCard : Claim7 := { stood := { row := cborDecodesRow, standIns := [], harness := (true, "0ea03d1a677bc788a93009061205a22dd49ab6e1156d6c4c8c9fe83d5675116e"), looks := false }, kinds := [], alts := [], laidByText := true, laidKinds := [.data, .pinned], laidTests := true, laidLooks := .later }
def CborDecodesCardSaid : Prop := Claim7.holds Tryd.pinned (.plain (OpenSpec.ofChange cborDecodesSpec)) cborDecodesCard

/-- THE TIED CARD OF 'latchkeylaw06.CborTurned'. -/
def cborTurnedCard : Claim7 := { stood := { row := cborTurnedRow, standIns := [], harness := (true, "0ea03d1a677bc788a93009061205a22dd49ab6e1156d6c4c8c9fe83d5675116e"), looks := false }, kinds := [], alts := [], laidByText := true, laidKinds := [.data, .pinned], laidTests := true, laidLooks := .later }
def CborTurnedCardSaid : Prop := Claim7.holds Tryd.pinned (.plain (OpenSpec.ofChange cborTurnedSpec)) cborTurnedCard

/-- THE TIED CARD OF 'latchkeylaw06.CborNumbers'. -/
def cborNumbersCard : Claim7 := { stood := { row := cborNumbersRow, standIns := [], harness := (true, "0ea03d1a677bc788a93009061205a22dd49ab6e1156d6c4c8c9fe83d5675116e"), looks := false }, kinds := [], alts := [], laidByText := true, laidKinds := [.data, .pinned], laidTests := true, laidLooks := .later }
def CborNumbersCardSaid : Prop := Claim7.holds Tryd.pinned (.plain (OpenSpec.ofChange cborNumbersSpec)) cborNumbersCard

/-- THE TIED CARD OF 'latchkeylaw15.AuthdParses'. -/
def authdParsesCard : Claim7 := { stood := { row := authdParsesRow, standIns := [], harness := (true, "0ea03d1a677bc788a93009061205a22dd49ab6e1156d6c4c8c9fe83d5675116e"), looks := false }, kinds := [], alts := [], laidByText := true, laidKinds := [.data, .pinned], laidTests := true, laidLooks := .later }
def AuthdParsesCardSaid : Prop := Claim7.holds Tryd.pinned (.plain (OpenSpec.ofChange authdParsesSpec)) authdParsesCard

/-- THE TIED CARD OF 'latchkeylaw15.AuthdFlags'. -/
def authdFlagsCard : Claim7 := { stood := { row := authdFlagsRow, standIns := [], harness := (true, "0ea03d1a677bc788a93009061205a22dd49ab6e1156d6c4c8c9fe83d5675116e"), looks := false }, kinds := [], alts := [], laidByText := true, laidKinds := [.data, .pinned], laidTests := true, laidLooks := .later }
def AuthdFlagsCardSaid : Prop := Claim7.holds Tryd.pinned (.plain (OpenSpec.ofChange authdFlagsSpec)) authdFlagsCard

/-- THE TIED CARD OF 'latchkeylaw06.CborBack'. -/
def cborBackCard : Claim7 := { stood := { row := cborBackRow, standIns := [], harness := (true, "0ea03d1a677bc788a93009061205a22dd49ab6e1156d6c4c8c9fe83d5675116e"), looks := false }, kinds := [], alts := [], laidByText := true, laidKinds := [.data, .pinned], laidTests := true, laidLooks := .later }
def CborBackCardSaid : Prop := Claim7.holds Tryd.pinned (.plain (OpenSpec.ofChange cborBackSpec)) cborBackCard

/-- THE TIED CARD OF 'latchkeylaw06.CborOne'. -/
def cborOneCard : Claim7 := { stood := { row := cborOneRow, standIns := [], harness := (true, "0ea03d1a677bc788a93009061205a22dd49ab6e1156d6c4c8c9fe83d5675116e"), looks := false }, kinds := [], alts := [], laidByText := true, laidKinds := [.data, .pinned], laidTests := true, laidLooks := .later }
def CborOneCardSaid : Prop := Claim7.holds Tryd.pinned (.plain (OpenSpec.ofChange cborOneSpec)) cborOneCard

/-- THE TIED CARD OF 'latchkeylaw06.CborEncodes'. -/
def cborEncodesCard : Claim7 := { stood := { row := cborEncodesRow, standIns := [], harness := (true, "0ea03d1a677bc788a93009061205a22dd49ab6e1156d6c4c8c9fe83d5675116e"), looks := false }, kinds := [], alts := [], laidByText := true, laidKinds := [.data, .pinned], laidTests := true, laidLooks := .later }
def CborEncodesCardSaid : Prop := Claim7.holds Tryd.pinned (.plain (OpenSpec.ofChange cborEncodesSpec)) cborEncodesCard

/-- THE TIED CARD OF 'latchkeylaw06.CborLimits'. -/
def cborLimitsCard : Claim7 := { stood := { row := cborLimitsRow, standIns := [], harness := (true, "0ea03d1a677bc788a93009061205a22dd49ab6e1156d6c4c8c9fe83d5675116e"), looks := false }, kinds := [], alts := [], laidByText := true, laidKinds := [.data, .pinned], laidTests := true, laidLooks := .later }
def CborLimitsCardSaid : Prop := Claim7.holds Tryd.pinned (.plain (OpenSpec.ofChange cborLimitsSpec)) cborLimitsCard

/-- THE TIED CARD OF 'latchkeylaw06.CborJoins'. -/
def cborJoinsCard : Claim7 := { stood := { row := cborJoinsRow, standIns := [], harness := (true, "0ea03d1a677bc788a93009061205a22dd49ab6e1156d6c4c8c9fe83d5675116e"), looks := false }, kinds := [], alts := [], laidByText := true, laidKinds := [.data, .pinned], laidTests := true, laidLooks := .later }
def CborJoinsCardSaid : Prop := Claim7.holds Tryd.pinned (.plain (OpenSpec.ofChange cborJoinsSpec)) cborJoinsCard

/-- THE TIED CARD OF 'latchkeylaw06.CborApart'. -/
def cborApartCard : Claim7 := { stood := { row := cborApartRow, standIns := [], harness := (true, "0ea03d1a677bc788a93009061205a22dd49ab6e1156d6c4c8c9fe83d5675116e"), looks := false }, kinds := [], alts := [], laidByText := true, laidKinds := [.data, .pinned], laidTests := true, laidLooks := .later }
def CborApartCardSaid : Prop := Claim7.holds Tryd.pinned (.plain (OpenSpec.ofChange cborApartSpec)) cborApartCard

/-- THE TIED CARD OF 'latchkeylaw15.AuthdWrites'. -/
def authdWritesCard : Claim7 := { stood := { row := authdWritesRow, standIns := [], harness := (true, "0ea03d1a677bc788a93009061205a22dd49ab6e1156d6c4c8c9fe83d5675116e"), looks := false }, kinds := [], alts := [], laidByText := true, laidKinds := [.data, .pinned], laidTests := true, laidLooks := .later }
def AuthdWritesCardSaid : Prop := Claim7.holds Tryd.pinned (.plain (OpenSpec.ofChange authdWritesSpec)) authdWritesCard

/-- THE TIED CARD OF 'latchkeylaw15.AuthdBack'. -/
def authdBackCard : Claim7 := { stood := { row := authdBackRow, standIns := [], harness := (true, "0ea03d1a677bc788a93009061205a22dd49ab6e1156d6c4c8c9fe83d5675116e"), looks := false }, kinds := [], alts := [], laidByText := true, laidKinds := [.data, .pinned], laidTests := true, laidLooks := .later }
def AuthdBackCardSaid : Prop := Claim7.holds Tryd.pinned (.plain (OpenSpec.ofChange authdBackSpec)) authdBackCard

/-- THE TIED CARD OF 'latchkeylaw15.AuthdOne'. -/
def authdOneCard : Claim7 := { stood := { row := authdOneRow, standIns := [], harness := (true, "0ea03d1a677bc788a93009061205a22dd49ab6e1156d6c4c8c9fe83d5675116e"), looks := false }, kinds := [], alts := [], laidByText := true, laidKinds := [.data, .pinned], laidTests := true, laidLooks := .later }
def AuthdOneCardSaid : Prop := Claim7.holds Tryd.pinned (.plain (OpenSpec.ofChange authdOneSpec)) authdOneCard

/-- THE SECOND FORM's CARD OF 'latchkeylaw06.CborDecodes'. -/
def cborDecodesUptoCard : Claim7 := { stood := { row := cborDecodesUptoRow, standIns := [], harness := (true, "0ea03d1a677bc788a93009061205a22dd49ab6e1156d6c4c8c9fe83d5675116e"), looks := false }, kinds := [], alts := [], laidByText := true, laidKinds := [.data, .pinned], laidTests := true, laidLooks := .later }
def CborDecodesUptoCardSaid : Prop := Claim7.holds Tryd.pinned (.plain (OpenSpec.upto cborDecodesSpec)) cborDecodesUptoCard

/-- THE SECOND FORM's CARD OF 'latchkeylaw06.CborTurned'. -/
def cborTurnedUptoCard : Claim7 := { stood := { row := cborTurnedUptoRow, standIns := [], harness := (true, "0ea03d1a677bc788a93009061205a22dd49ab6e1156d6c4c8c9fe83d5675116e"), looks := false }, kinds := [], alts := [], laidByText := true, laidKinds := [.data, .pinned], laidTests := true, laidLooks := .later }
def CborTurnedUptoCardSaid : Prop := Claim7.holds Tryd.pinned (.plain (OpenSpec.upto cborTurnedSpec)) cborTurnedUptoCard

/-- THE SECOND FORM's CARD OF 'latchkeylaw06.CborNumbers'. -/
def cborNumbersUptoCard : Claim7 := { stood := { row := cborNumbersUptoRow, standIns := [], harness := (true, "0ea03d1a677bc788a93009061205a22dd49ab6e1156d6c4c8c9fe83d5675116e"), looks := false }, kinds := [], alts := [], laidByText := true, laidKinds := [.data, .pinned], laidTests := true, laidLooks := .later }
def CborNumbersUptoCardSaid : Prop := Claim7.holds Tryd.pinned (.plain (OpenSpec.upto cborNumbersSpec)) cborNumbersUptoCard

/-- THE SECOND FORM's CARD OF 'latchkeylaw15.AuthdParses'. -/
def authdParsesUptoCard : Claim7 := { stood := { row := authdParsesUptoRow, standIns := [], harness := (true, "0ea03d1a677bc788a93009061205a22dd49ab6e1156d6c4c8c9fe83d5675116e"), looks := false }, kinds := [], alts := [], laidByText := true, laidKinds := [.data, .pinned], laidTests := true, laidLooks := .later }
def AuthdParsesUptoCardSaid : Prop := Claim7.holds Tryd.pinned (.plain (OpenSpec.upto authdParsesSpec)) authdParsesUptoCard

/-- THE SECOND FORM's CARD OF 'latchkeylaw15.AuthdFlags'. -/
def authdFlagsUptoCard : Claim7 := { stood := { row := authdFlagsUptoRow, standIns := [], harness := (true, "0ea03d1a677bc788a93009061205a22dd49ab6e1156d6c4c8c9fe83d5675116e"), looks := false }, kinds := [], alts := [], laidByText := true, laidKinds := [.data, .pinned], laidTests := true, laidLooks := .later }
def AuthdFlagsUptoCardSaid : Prop := Claim7.holds Tryd.pinned (.plain (OpenSpec.upto authdFlagsSpec)) authdFlagsUptoCard

/-- THE SECOND FORM's CARD OF 'latchkeylaw06.CborBack'. -/
def cborBackUptoCard : Claim7 := { stood := { row := cborBackUptoRow, standIns := [], harness := (true, "0ea03d1a677bc788a93009061205a22dd49ab6e1156d6c4c8c9fe83d5675116e"), looks := false }, kinds := [], alts := [], laidByText := true, laidKinds := [.data, .pinned], laidTests := true, laidLooks := .later }
def CborBackUptoCardSaid : Prop := Claim7.holds Tryd.pinned (.plain (OpenSpec.upto cborBackSpec)) cborBackUptoCard

/-- THE SECOND FORM's CARD OF 'latchkeylaw06.CborOne'. -/
def cborOneUptoCard : Claim7 := { stood := { row := cborOneUptoRow, standIns := [], harness := (true, "0ea03d1a677bc788a93009061205a22dd49ab6e1156d6c4c8c9fe83d5675116e"), looks := false }, kinds := [], alts := [], laidByText := true, laidKinds := [.data, .pinned], laidTests := true, laidLooks := .later }
def CborOneUptoCardSaid : Prop := Claim7.holds Tryd.pinned (.plain (OpenSpec.upto cborOneSpec)) cborOneUptoCard

/-- THE SECOND FORM's CARD OF 'latchkeylaw06.CborEncodes'. -/
def cborEncodesUptoCard : Claim7 := { stood := { row := cborEncodesUptoRow, standIns := [], harness := (true, "0ea03d1a677bc788a93009061205a22dd49ab6e1156d6c4c8c9fe83d5675116e"), looks := false }, kinds := [], alts := [], laidByText := true, laidKinds := [.data, .pinned], laidTests := true, laidLooks := .later }
def CborEncodesUptoCardSaid : Prop := Claim7.holds Tryd.pinned (.plain (OpenSpec.upto cborEncodesSpec)) cborEncodesUptoCard

/-- THE SECOND FORM's CARD OF 'latchkeylaw06.CborLimits'. -/
def cborLimitsUptoCard : Claim7 := { stood := { row := cborLimitsUptoRow, standIns := [], harness := (true, "0ea03d1a677bc788a93009061205a22dd49ab6e1156d6c4c8c9fe83d5675116e"), looks := false }, kinds := [], alts := [], laidByText := true, laidKinds := [.data, .pinned], laidTests := true, laidLooks := .later }
def CborLimitsUptoCardSaid : Prop := Claim7.holds Tryd.pinned (.plain (OpenSpec.upto cborLimitsSpec)) cborLimitsUptoCard

/-- THE SECOND FORM's CARD OF 'latchkeylaw06.CborJoins'. -/
def cborJoinsUptoCard : Claim7 := { stood := { row := cborJoinsUptoRow, standIns := [], harness := (true, "0ea03d1a677bc788a93009061205a22dd49ab6e1156d6c4c8c9fe83d5675116e"), looks := false }, kinds := [], alts := [], laidByText := true, laidKinds := [.data, .pinned], laidTests := true, laidLooks := .later }
def CborJoinsUptoCardSaid : Prop := Claim7.holds Tryd.pinned (.plain (OpenSpec.upto cborJoinsSpec)) cborJoinsUptoCard

/-- THE SECOND FORM's CARD OF 'latchkeylaw06.CborApart'. -/
def cborApartUptoCard : Claim7 := { stood := { row := cborApartUptoRow, standIns := [], harness := (true, "0ea03d1a677bc788a93009061205a22dd49ab6e1156d6c4c8c9fe83d5675116e"), looks := false }, kinds := [], alts := [], laidByText := true, laidKinds := [.data, .pinned], laidTests := true, laidLooks := .later }
def CborApartUptoCardSaid : Prop := Claim7.holds Tryd.pinned (.plain (OpenSpec.upto cborApartSpec)) cborApartUptoCard

/-- THE SECOND FORM's CARD OF 'latchkeylaw15.AuthdWrites'. -/
def authdWritesUptoCard : Claim7 := { stood := { row := authdWritesUptoRow, standIns := [], harness := (true, "0ea03d1a677bc788a93009061205a22dd49ab6e1156d6c4c8c9fe83d5675116e"), looks := false }, kinds := [], alts := [], laidByText := true, laidKinds := [.data, .pinned], laidTests := true, laidLooks := .later }
def AuthdWritesUptoCardSaid : Prop := Claim7.holds Tryd.pinned (.plain (OpenSpec.upto authdWritesSpec)) authdWritesUptoCard

/-- THE SECOND FORM's CARD OF 'latchkeylaw15.AuthdBack'. -/
def authdBackUptoCard : Claim7 := { stood := { row := authdBackUptoRow, standIns := [], harness := (true, "0ea03d1a677bc788a93009061205a22dd49ab6e1156d6c4c8c9fe83d5675116e"), looks := false }, kinds := [], alts := [], laidByText := true, laidKinds := [.data, .pinned], laidTests := true, laidLooks := .later }
def AuthdBackUptoCardSaid : Prop := Claim7.holds Tryd.pinned (.plain (OpenSpec.upto authdBackSpec)) authdBackUptoCard

/-- THE SECOND FORM's CARD OF 'latchkeylaw15.AuthdOne'. -/
def authdOneUptoCard : Claim7 := { stood := { row := authdOneUptoRow, standIns := [], harness := (true, "0ea03d1a677bc788a93009061205a22dd49ab6e1156d6c4c8c9fe83d5675116e"), looks := false }, kinds := [], alts := [], laidByText := true, laidKinds := [.data, .pinned], laidTests := true, laidLooks := .later }
def AuthdOneUptoCardSaid : Prop := Claim7.holds Tryd.pinned (.plain (OpenSpec.upto authdOneSpec)) authdOneUptoCard
end Rows
end Go.Proofs.YtijcpdgfbboamaaDoor
