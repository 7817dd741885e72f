/-
  DERIVED. GIVEN WITH THE SEED: THE CARDS: each row of YtfemncfhiihckaaDoorRows.lean that lists a variable, with what it lists TIED to the program's text (the seventh form; the later family's looks); each row that meets fmt, with fmt's text TOLD by the authors' own Lean function (tested against real Go, not proved from fmt's source: count such statements apart). THE CARD IS WHAT COUNTS. Prove the row's statement (the work); the ties are given (YtfemncfhiihckaaDoorTie.lean); close each card by the builder's one call (the guide's Derived/Test/ToyasCard.lean, 'card_holds'). Laid BY PROGRAM, IN A SANDBOX (cutbox-door.mjs). By AI agents, Wed Nov 11 2026. No macro, syntax, notation, axiom, sorry.
-/
import Derived.Test.YtfemncfhiihckaaDoorRows
import GoSem.ClaimSeven
namespace Go.Proofs.YtfemncfhiihckaaDoor
namespace Rows

/-- THE TIED CARD OF 'latchkeylaw05.JsonsTurned'. -/
def jsonsTurnedCard : Claim7 := { stood := { row := jsonsTurnedRow, standIns := [], harness := (true, "83a82b3b44d389b09a94f50fb0570c4fa1a744f6f442abd46469baffe4ccd8d8"), looks := false }, kinds := [], alts := [], laidByText := true, laidKinds := [.data, .pinned], laidTests := true, laidLooks := .later }
def JsonsTurnedCardSaid : Prop := Claim7.holds Tryd.pinned (.plain (OpenSpec.ofChange jsonsTurnedSpec)) jsonsTurnedCard

/-- THE TIED CARD OF 'latchkeylaw05.JsonsBlanks'. -/
def jsonsBlanksCard : Claim7 := { stood := { row := jsonsBlanksRow, standIns := [], harness := (true, "83a82b3b44d389b09a94f50fb0570c4fa1a744f6f442abd46469baffe4ccd8d8"), looks := false }, kinds := [], alts := [], laidByText := true, laidKinds := [.data, .pinned], laidTests := true, laidLooks := .later }
def JsonsBlanksCardSaid : Prop := Claim7.holds Tryd.pinned (.plain (OpenSpec.ofChange jsonsBlanksSpec)) jsonsBlanksCard

/-- THE TIED CARD OF 'latchkeylaw05.JsonsNumbers'. -/
def jsonsNumbersCard : Claim7 := { stood := { row := jsonsNumbersRow, standIns := [], harness := (true, "83a82b3b44d389b09a94f50fb0570c4fa1a744f6f442abd46469baffe4ccd8d8"), looks := false }, kinds := [], alts := [], laidByText := true, laidKinds := [.data, .pinned], laidTests := true, laidLooks := .later }
def JsonsNumbersCardSaid : Prop := Claim7.holds Tryd.pinned (.plain (OpenSpec.ofChange jsonsNumbersSpec)) jsonsNumbersCard

/-- THE TIED CARD OF 'latchkeylaw05.JsonsLimits'. -/
def jsonsLimitsCard : Claim7 := { stood := { row := jsonsLimitsRow, standIns := [], harness := (true, "83a82b3b44d389b09a94f50fb0570c4fa1a744f6f442abd46469baffe4ccd8d8"), looks := false }, kinds := [], alts := [], laidByText := true, laidKinds := [.data, .pinned], laidTests := true, laidLooks := .later }
def JsonsLimitsCardSaid : Prop := Claim7.holds Tryd.pinned (.plain (OpenSpec.ofChange jsonsLimitsSpec)) jsonsLimitsCard

/-- THE TIED CARD OF 'latchkeylaw05.JsonsJoins'. -/
def jsonsJoinsCard : Claim7 := { stood := { row := jsonsJoinsRow, standIns := [], harness := (true, "83a82b3b44d389b09a94f50fb0570c4fa1a744f6f442abd46469baffe4ccd8d8"), looks := false }, kinds := [], alts := [], laidByText := true, laidKinds := [.data, .pinned], laidTests := true, laidLooks := .later }
def JsonsJoinsCardSaid : Prop := Claim7.holds Tryd.pinned (.plain (OpenSpec.ofChange jsonsJoinsSpec)) jsonsJoinsCard

/-- THE TIED CARD OF 'latchkeylaw05.JsonsGets'. -/
def jsonsGetsCard : Claim7 := { stood := { row := jsonsGetsRow, standIns := [], harness := (true, "83a82b3b44d389b09a94f50fb0570c4fa1a744f6f442abd46469baffe4ccd8d8"), looks := false }, kinds := [], alts := [], laidByText := true, laidKinds := [.data, .pinned], laidTests := true, laidLooks := .later }
def JsonsGetsCardSaid : Prop := Claim7.holds Tryd.pinned (.plain (OpenSpec.ofChange jsonsGetsSpec)) jsonsGetsCard

/-- THE TIED CARD OF 'latchkeylaw16.ClientParses'. -/
def clientParsesCard : Claim7 := { stood := { row := clientParsesRow, standIns := [], harness := (true, "83a82b3b44d389b09a94f50fb0570c4fa1a744f6f442abd46469baffe4ccd8d8"), looks := false }, kinds := [], alts := [], laidByText := true, laidKinds := [.data, .pinned], laidTests := true, laidLooks := .later }
def ClientParsesCardSaid : Prop := Claim7.holds Tryd.pinned (.plain (OpenSpec.ofChange clientParsesSpec)) clientParsesCard

/-- THE TIED CARD OF 'latchkeylaw16.ClientTurned'. -/
def clientTurnedCard : Claim7 := { stood := { row := clientTurnedRow, standIns := [], harness := (true, "83a82b3b44d389b09a94f50fb0570c4fa1a744f6f442abd46469baffe4ccd8d8"), looks := false }, kinds := [], alts := [], laidByText := true, laidKinds := [.data, .pinned], laidTests := true, laidLooks := .later }
def ClientTurnedCardSaid : Prop := Claim7.holds Tryd.pinned (.plain (OpenSpec.ofChange clientTurnedSpec)) clientTurnedCard

/-- THE TIED CARD OF 'latchkeylaw16.ClientMembers'. -/
def clientMembersCard : Claim7 := { stood := { row := clientMembersRow, standIns := [], harness := (true, "83a82b3b44d389b09a94f50fb0570c4fa1a744f6f442abd46469baffe4ccd8d8"), looks := false }, kinds := [], alts := [], laidByText := true, laidKinds := [.data, .pinned], laidTests := true, laidLooks := .later }
def ClientMembersCardSaid : Prop := Claim7.holds Tryd.pinned (.plain (OpenSpec.ofChange clientMembersSpec)) clientMembersCard

/-- THE TIED CARD OF 'latchkeylaw16.ClientSays'. -/
def clientSaysCard : Claim7 := { stood := { row := clientSaysRow, standIns := [], harness := (true, "83a82b3b44d389b09a94f50fb0570c4fa1a744f6f442abd46469baffe4ccd8d8"), looks := false }, kinds := [], alts := [], laidByText := true, laidKinds := [.data, .pinned], laidTests := true, laidLooks := .later }
def ClientSaysCardSaid : Prop := Claim7.holds Tryd.pinned (.plain (OpenSpec.ofChange clientSaysSpec)) clientSaysCard

/-- THE TIED CARD OF 'latchkeylaw16.ClientMore'. -/
def clientMoreCard : Claim7 := { stood := { row := clientMoreRow, standIns := [], harness := (true, "83a82b3b44d389b09a94f50fb0570c4fa1a744f6f442abd46469baffe4ccd8d8"), looks := false }, kinds := [], alts := [], laidByText := true, laidKinds := [.data, .pinned], laidTests := true, laidLooks := .later }
def ClientMoreCardSaid : Prop := Claim7.holds Tryd.pinned (.plain (OpenSpec.ofChange clientMoreSpec)) clientMoreCard

/-- THE SECOND FORM's CARD OF 'latchkeylaw05.JsonsTurned'. -/
def jsonsTurnedUptoCard : Claim7 := { stood := { row := jsonsTurnedUptoRow, standIns := [], harness := (true, "83a82b3b44d389b09a94f50fb0570c4fa1a744f6f442abd46469baffe4ccd8d8"), looks := false }, kinds := [], alts := [], laidByText := true, laidKinds := [.data, .pinned], laidTests := true, laidLooks := .later }
def JsonsTurnedUptoCardSaid : Prop := Claim7.holds Tryd.pinned (.plain (OpenSpec.upto jsonsTurnedSpec)) jsonsTurnedUptoCard

/-- THE SECOND FORM's CARD OF 'latchkeylaw05.JsonsBlanks'. -/
def jsonsBlanksUptoCard : Claim7 := { stood := { row := jsonsBlanksUptoRow, standIns := [], harness := (true, "83a82b3b44d389b09a94f50fb0570c4fa1a744f6f442abd46469baffe4ccd8d8"), looks := false }, kinds := [], alts := [], laidByText := true, laidKinds := [.data, .pinned], laidTests := true, laidLooks := .later }
def JsonsBlanksUptoCardSaid : Prop := Claim7.holds Tryd.pinned (.plain (OpenSpec.upto jsonsBlanksSpec)) jsonsBlanksUptoCard

/-- THE SECOND FORM's CARD OF 'latchkeylaw05.JsonsNumbers'. -/
def jsonsNumbersUptoCard : Claim7 := { stood := { row := jsonsNumbersUptoRow, standIns := [], harness := (true, "83a82b3b44d389b09a94f50fb0570c4fa1a744f6f442abd46469baffe4ccd8d8"), looks := false }, kinds := [], alts := [], laidByText := true, laidKinds := [.data, .pinned], laidTests := true, laidLooks := .later }
def JsonsNumbersUptoCardSaid : Prop := Claim7.holds Tryd.pinned (.plain (OpenSpec.upto jsonsNumbersSpec)) jsonsNumbersUptoCard

/-- THE SECOND FORM's CARD OF 'latchkeylaw05.JsonsLimits'. -/
def jsonsLimitsUptoCard : Claim7 := { stood := { row := jsonsLimitsUptoRow, standIns := [], harness := (true, "83a82b3b44d389b09a94f50fb0570c4fa1a744f6f442abd46469baffe4ccd8d8"), looks := false }, kinds := [], alts := [], laidByText := true, laidKinds := [.data, .pinned], laidTests := true, laidLooks := .later }
def JsonsLimitsUptoCardSaid : Prop := Claim7.holds Tryd.pinned (.plain (OpenSpec.upto jsonsLimitsSpec)) jsonsLimitsUptoCard

/-- THE SECOND FORM's CARD OF 'latchkeylaw05.JsonsJoins'. -/
def jsonsJoinsUptoCard : Claim7 := { stood := { row := jsonsJoinsUptoRow, standIns := [], harness := (true, "83a82b3b44d389b09a94f50fb0570c4fa1a744f6f442abd46469baffe4ccd8d8"), looks := false }, kinds := [], alts := [], laidByText := true, laidKinds := [.data, .pinned], laidTests := true, laidLooks := .later }
def JsonsJoinsUptoCardSaid : Prop := Claim7.holds Tryd.pinned (.plain (OpenSpec.upto jsonsJoinsSpec)) jsonsJoinsUptoCard

/-- THE SECOND FORM's CARD OF 'latchkeylaw05.JsonsGets'. -/
def jsonsGetsUptoCard : Claim7 := { stood := { row := jsonsGetsUptoRow, standIns := [], harness := (true, "83a82b3b44d389b09a94f50fb0570c4fa1a744f6f442abd46469baffe4ccd8d8"), looks := false }, kinds := [], alts := [], laidByText := true, laidKinds := [.data, .pinned], laidTests := true, laidLooks := .later }
def JsonsGetsUptoCardSaid : Prop := Claim7.holds Tryd.pinned (.plain (OpenSpec.upto jsonsGetsSpec)) jsonsGetsUptoCard

/-- THE SECOND FORM's CARD OF 'latchkeylaw16.ClientParses'. -/
def clientParsesUptoCard : Claim7 := { stood := { row := clientParsesUptoRow, standIns := [], harness := (true, "83a82b3b44d389b09a94f50fb0570c4fa1a744f6f442abd46469baffe4ccd8d8"), looks := false }, kinds := [], alts := [], laidByText := true, laidKinds := [.data, .pinned], laidTests := true, laidLooks := .later }
def ClientParsesUptoCardSaid : Prop := Claim7.holds Tryd.pinned (.plain (OpenSpec.upto clientParsesSpec)) clientParsesUptoCard

/-- THE SECOND FORM's CARD OF 'latchkeylaw16.ClientTurned'. -/
def clientTurnedUptoCard : Claim7 := { stood := { row := clientTurnedUptoRow, standIns := [], harness := (true, "83a82b3b44d389b09a94f50fb0570c4fa1a744f6f442abd46469baffe4ccd8d8"), looks := false }, kinds := [], alts := [], laidByText := true, laidKinds := [.data, .pinned], laidTests := true, laidLooks := .later }
def ClientTurnedUptoCardSaid : Prop := Claim7.holds Tryd.pinned (.plain (OpenSpec.upto clientTurnedSpec)) clientTurnedUptoCard

/-- THE SECOND FORM's CARD OF 'latchkeylaw16.ClientMembers'. -/
def clientMembersUptoCard : Claim7 := { stood := { row := clientMembersUptoRow, standIns := [], harness := (true, "83a82b3b44d389b09a94f50fb0570c4fa1a744f6f442abd46469baffe4ccd8d8"), looks := false }, kinds := [], alts := [], laidByText := true, laidKinds := [.data, .pinned], laidTests := true, laidLooks := .later }
def ClientMembersUptoCardSaid : Prop := Claim7.holds Tryd.pinned (.plain (OpenSpec.upto clientMembersSpec)) clientMembersUptoCard

/-- THE SECOND FORM's CARD OF 'latchkeylaw16.ClientSays'. -/
def clientSaysUptoCard : Claim7 := { stood := { row := clientSaysUptoRow, standIns := [], harness := (true, "83a82b3b44d389b09a94f50fb0570c4fa1a744f6f442abd46469baffe4ccd8d8"), looks := false }, kinds := [], alts := [], laidByText := true, laidKinds := [.data, .pinned], laidTests := true, laidLooks := .later }
def ClientSaysUptoCardSaid : Prop := Claim7.holds Tryd.pinned (.plain (OpenSpec.upto clientSaysSpec)) clientSaysUptoCard

/-- THE SECOND FORM's CARD OF 'latchkeylaw16.ClientMore'. -/
def clientMoreUptoCard : Claim7 := { stood := { row := clientMoreUptoRow, standIns := [], harness := (true, "83a82b3b44d389b09a94f50fb0570c4fa1a744f6f442abd46469baffe4ccd8d8"), looks := false }, kinds := [], alts := [], laidByText := true, laidKinds := [.data, .pinned], laidTests := true, laidLooks := .later }
def ClientMoreUptoCardSaid : Prop := Claim7.holds Tryd.pinned (.plain (OpenSpec.upto clientMoreSpec)) clientMoreUptoCard
end Rows
end Go.Proofs.YtfemncfhiihckaaDoor
