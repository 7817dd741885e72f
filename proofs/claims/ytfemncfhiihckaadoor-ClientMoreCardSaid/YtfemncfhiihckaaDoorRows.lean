/-
  NARROWER THAN 'FOR EVERY INPUT', by the rows' own cells (each row's printed sentence says how): JsonsTurned: loops, laid · JsonsBlanks: loops, laid · JsonsNumbers: laid · JsonsLimits: laid · JsonsJoins: loops, laid · JsonsGets: laid · ClientParses: laid · ClientTurned: laid · ClientMembers: laid · ClientSays: laid · ClientMore: laid.
  DERIVED. THE GIVEN ROWS OF THIS SEAT. 11 by the template 'for every input the law returns true; each argument reads behind the call as it read before'; 0 by the template 'total and deterministic' (their statements: YtfemncfhiihckaaDoorTotals.lean).
  GIVEN WITH THE SEED: the statements are not yours to turn. If you find one false, say at which input.
  Laid BY PROGRAM, IN A SANDBOX (cutbox-rows.mjs): the forced cells as the released guide's own fill.sh prints them over the translation 608f41bf14f37284… (all of the seat's roots in one cut). By AI agents, Wed Nov 11 2026. No macro, syntax, notation, axiom, sorry.
-/
import Derived.Test.YtfemncfhiihckaaDoorChecked
import GoSem.PinnedTables
import GoSem.Claim
import GoSem.ClaimJoined
import GoSem.ClaimMapViews
import Derived.JoinedTies
import Derived.KernelRfl
namespace Go.Proofs.YtfemncfhiihckaaDoor
/- THE CELL 'sum', in the pinned program and in every row, IS THE sha256 OF THE DUMP (.gsa) THAT YtfemncfhiihckaaDoorProg.lean LOADS. Nothing in Lean hashes anything: it is a label: what it is worth is what the hold of that sum in a sandbox is worth. -/
noncomputable def Tryd.pinned : Pinned := { name := "ytfemncfhiihckaadoor", sum := "608f41bf14f37284ced63852930d1c75d73a818c90a6e987bb829e102a8c9353", checked := Tryd.checked }
namespace Rows
def none {H : Type} : Left H := { results := [], args := [] }

/- WHAT THE LISTED PACKAGE-LEVEL VARIABLES READ AS WHEN THE CALL BEGINS. Each datum BY PROGRAM (the guide's laid-datum.mjs) off the statement by which the dump's own 'gosem.cut.vars' lays the variable. In a bare row this is a premise. The card (YtfemncfhiihckaaDoorCards.lean) ties it to the program's text. -/
def laid_unicode_utf8_acceptRanges {H : Type} : DataW H := .agg [.agg [.lit (.int .u8 128), .lit (.int .u8 191)], .agg [.lit (.int .u8 160), .lit (.int .u8 191)], .agg [.lit (.int .u8 128), .lit (.int .u8 159)], .agg [.lit (.int .u8 144), .lit (.int .u8 191)], .agg [.lit (.int .u8 128), .lit (.int .u8 143)], .agg [.lit (.int .u8 0), .lit (.int .u8 0)], .agg [.lit (.int .u8 0), .lit (.int .u8 0)], .agg [.lit (.int .u8 0), .lit (.int .u8 0)], .agg [.lit (.int .u8 0), .lit (.int .u8 0)], .agg [.lit (.int .u8 0), .lit (.int .u8 0)], .agg [.lit (.int .u8 0), .lit (.int .u8 0)], .agg [.lit (.int .u8 0), .lit (.int .u8 0)], .agg [.lit (.int .u8 0), .lit (.int .u8 0)], .agg [.lit (.int .u8 0), .lit (.int .u8 0)], .agg [.lit (.int .u8 0), .lit (.int .u8 0)], .agg [.lit (.int .u8 0), .lit (.int .u8 0)]]
/-- One of Go's own tables, pinned by name: the form's constant. -/
def laid_unicode_utf8_first : DataW Unit := Go.Pinned.utf8First

/-- 'latchkeylaw05.JsonsTurned': WHATEVER THE INPUT: true; the input reads as it did. -/
def jsonsTurnedSpec : ChangeSpec := { name := "jsonsTurned", fn := fun _ => fun
  | [d1, d2, d3, d4] => { results := [.lit (.bool true)], args := [d1, d2, d3, d4] }
  | _ => none }
def jsonsTurnedRow : OpenClaim := { program := "ytfemncfhiihckaadoor", sum := "608f41bf14f37284ced63852930d1c75d73a818c90a6e987bb829e102a8c9353", func := "latchkey/latchkeylaw05.JsonsTurned", spec := "jsonsTurned", unfollowed := true, recurses := true, named := ["unicode/utf8.first", "unicode/utf8.acceptRanges"], loops := true, apart := false, laid := [("unicode/utf8.acceptRanges", laid_unicode_utf8_acceptRanges), ("unicode/utf8.first", laid_unicode_utf8_first)] }
def JsonsTurnedSaid : Prop := jsonsTurnedRow.holds Tryd.pinned (OpenSpec.ofChange jsonsTurnedSpec)

/-- ITS FALSE NEIGHBOUR: 'it returns false'. Refute it at one input. -/
def jsonsTurnedWrong : ChangeSpec := { name := "jsonsTurned", fn := fun _ => fun
  | [d1, d2, d3, d4] => { results := [.lit (.bool false)], args := [d1, d2, d3, d4] }
  | _ => none }
def JsonsTurnedWrongFalsely : Prop := jsonsTurnedRow.holds Tryd.pinned (OpenSpec.ofChange jsonsTurnedWrong)

/-- 'latchkeylaw05.JsonsBlanks': WHATEVER THE INPUT: true; the input reads as it did. -/
def jsonsBlanksSpec : ChangeSpec := { name := "jsonsBlanks", fn := fun _ => fun
  | [d1, d2] => { results := [.lit (.bool true)], args := [d1, d2] }
  | _ => none }
def jsonsBlanksRow : OpenClaim := { program := "ytfemncfhiihckaadoor", sum := "608f41bf14f37284ced63852930d1c75d73a818c90a6e987bb829e102a8c9353", func := "latchkey/latchkeylaw05.JsonsBlanks", spec := "jsonsBlanks", unfollowed := true, recurses := true, named := ["unicode/utf8.first", "unicode/utf8.acceptRanges"], loops := true, apart := false, laid := [("unicode/utf8.acceptRanges", laid_unicode_utf8_acceptRanges), ("unicode/utf8.first", laid_unicode_utf8_first)] }
def JsonsBlanksSaid : Prop := jsonsBlanksRow.holds Tryd.pinned (OpenSpec.ofChange jsonsBlanksSpec)

/-- ITS FALSE NEIGHBOUR: 'it returns false'. Refute it at one input. -/
def jsonsBlanksWrong : ChangeSpec := { name := "jsonsBlanks", fn := fun _ => fun
  | [d1, d2] => { results := [.lit (.bool false)], args := [d1, d2] }
  | _ => none }
def JsonsBlanksWrongFalsely : Prop := jsonsBlanksRow.holds Tryd.pinned (OpenSpec.ofChange jsonsBlanksWrong)

/-- 'latchkeylaw05.JsonsNumbers': WHATEVER THE INPUT: true; the input reads as it did. -/
def jsonsNumbersSpec : ChangeSpec := { name := "jsonsNumbers", fn := fun _ => fun
  | [d] => { results := [.lit (.bool true)], args := [d] }
  | _ => none }
def jsonsNumbersRow : OpenClaim := { program := "ytfemncfhiihckaadoor", sum := "608f41bf14f37284ced63852930d1c75d73a818c90a6e987bb829e102a8c9353", func := "latchkey/latchkeylaw05.JsonsNumbers", spec := "jsonsNumbers", unfollowed := true, recurses := true, named := ["unicode/utf8.first", "unicode/utf8.acceptRanges"], apart := false, laid := [("unicode/utf8.acceptRanges", laid_unicode_utf8_acceptRanges), ("unicode/utf8.first", laid_unicode_utf8_first)] }
def JsonsNumbersSaid : Prop := jsonsNumbersRow.holds Tryd.pinned (OpenSpec.ofChange jsonsNumbersSpec)

/-- ITS FALSE NEIGHBOUR: 'it returns false'. Refute it at one input. -/
def jsonsNumbersWrong : ChangeSpec := { name := "jsonsNumbers", fn := fun _ => fun
  | [d] => { results := [.lit (.bool false)], args := [d] }
  | _ => none }
def JsonsNumbersWrongFalsely : Prop := jsonsNumbersRow.holds Tryd.pinned (OpenSpec.ofChange jsonsNumbersWrong)

/-- 'latchkeylaw05.JsonsLimits': WHATEVER THE INPUT: true; the input reads as it did. -/
def jsonsLimitsSpec : ChangeSpec := { name := "jsonsLimits", fn := fun _ => fun
  | [d1, d2] => { results := [.lit (.bool true)], args := [d1, d2] }
  | _ => none }
def jsonsLimitsRow : OpenClaim := { program := "ytfemncfhiihckaadoor", sum := "608f41bf14f37284ced63852930d1c75d73a818c90a6e987bb829e102a8c9353", func := "latchkey/latchkeylaw05.JsonsLimits", spec := "jsonsLimits", unfollowed := true, recurses := true, named := ["unicode/utf8.first", "unicode/utf8.acceptRanges"], apart := false, laid := [("unicode/utf8.acceptRanges", laid_unicode_utf8_acceptRanges), ("unicode/utf8.first", laid_unicode_utf8_first)] }
def JsonsLimitsSaid : Prop := jsonsLimitsRow.holds Tryd.pinned (OpenSpec.ofChange jsonsLimitsSpec)

/-- ITS FALSE NEIGHBOUR: 'it returns false'. Refute it at one input. -/
def jsonsLimitsWrong : ChangeSpec := { name := "jsonsLimits", fn := fun _ => fun
  | [d1, d2] => { results := [.lit (.bool false)], args := [d1, d2] }
  | _ => none }
def JsonsLimitsWrongFalsely : Prop := jsonsLimitsRow.holds Tryd.pinned (OpenSpec.ofChange jsonsLimitsWrong)

/-- 'latchkeylaw05.JsonsJoins': WHATEVER THE INPUT: true; the input reads as it did. -/
def jsonsJoinsSpec : ChangeSpec := { name := "jsonsJoins", fn := fun _ => fun
  | [d1, d2] => { results := [.lit (.bool true)], args := [d1, d2] }
  | _ => none }
def jsonsJoinsRow : OpenClaim := { program := "ytfemncfhiihckaadoor", sum := "608f41bf14f37284ced63852930d1c75d73a818c90a6e987bb829e102a8c9353", func := "latchkey/latchkeylaw05.JsonsJoins", spec := "jsonsJoins", unfollowed := true, recurses := true, named := ["unicode/utf8.first", "unicode/utf8.acceptRanges"], loops := true, apart := false, laid := [("unicode/utf8.acceptRanges", laid_unicode_utf8_acceptRanges), ("unicode/utf8.first", laid_unicode_utf8_first)] }
def JsonsJoinsSaid : Prop := jsonsJoinsRow.holds Tryd.pinned (OpenSpec.ofChange jsonsJoinsSpec)

/-- ITS FALSE NEIGHBOUR: 'it returns false'. Refute it at one input. -/
def jsonsJoinsWrong : ChangeSpec := { name := "jsonsJoins", fn := fun _ => fun
  | [d1, d2] => { results := [.lit (.bool false)], args := [d1, d2] }
  | _ => none }
def JsonsJoinsWrongFalsely : Prop := jsonsJoinsRow.holds Tryd.pinned (OpenSpec.ofChange jsonsJoinsWrong)

/-- 'latchkeylaw05.JsonsGets': WHATEVER THE INPUT: true; the input reads as it did. -/
def jsonsGetsSpec : ChangeSpec := { name := "jsonsGets", fn := fun _ => fun
  | [d1, d2, d3, d4] => { results := [.lit (.bool true)], args := [d1, d2, d3, d4] }
  | _ => none }
def jsonsGetsRow : OpenClaim := { program := "ytfemncfhiihckaadoor", sum := "608f41bf14f37284ced63852930d1c75d73a818c90a6e987bb829e102a8c9353", func := "latchkey/latchkeylaw05.JsonsGets", spec := "jsonsGets", unfollowed := true, recurses := true, named := ["unicode/utf8.first", "unicode/utf8.acceptRanges"], apart := false, laid := [("unicode/utf8.acceptRanges", laid_unicode_utf8_acceptRanges), ("unicode/utf8.first", laid_unicode_utf8_first)] }
def JsonsGetsSaid : Prop := jsonsGetsRow.holds Tryd.pinned (OpenSpec.ofChange jsonsGetsSpec)

/-- ITS FALSE NEIGHBOUR: 'it returns false'. Refute it at one input. -/
def jsonsGetsWrong : ChangeSpec := { name := "jsonsGets", fn := fun _ => fun
  | [d1, d2, d3, d4] => { results := [.lit (.bool false)], args := [d1, d2, d3, d4] }
  | _ => none }
def JsonsGetsWrongFalsely : Prop := jsonsGetsRow.holds Tryd.pinned (OpenSpec.ofChange jsonsGetsWrong)

/-- 'latchkeylaw16.ClientParses': WHATEVER THE INPUT: true; the input reads as it did. -/
def clientParsesSpec : ChangeSpec := { name := "clientParses", fn := fun _ => fun
  | [d] => { results := [.lit (.bool true)], args := [d] }
  | _ => none }
def clientParsesRow : OpenClaim := { program := "ytfemncfhiihckaadoor", sum := "608f41bf14f37284ced63852930d1c75d73a818c90a6e987bb829e102a8c9353", func := "latchkey/latchkeylaw16.ClientParses", spec := "clientParses", unfollowed := true, recurses := true, named := ["unicode/utf8.first", "unicode/utf8.acceptRanges"], apart := false, laid := [("unicode/utf8.acceptRanges", laid_unicode_utf8_acceptRanges), ("unicode/utf8.first", laid_unicode_utf8_first)] }
def ClientParsesSaid : Prop := clientParsesRow.holds Tryd.pinned (OpenSpec.ofChange clientParsesSpec)

/-- ITS FALSE NEIGHBOUR: 'it returns false'. Refute it at one input. -/
def clientParsesWrong : ChangeSpec := { name := "clientParses", fn := fun _ => fun
  | [d] => { results := [.lit (.bool false)], args := [d] }
  | _ => none }
def ClientParsesWrongFalsely : Prop := clientParsesRow.holds Tryd.pinned (OpenSpec.ofChange clientParsesWrong)

/-- 'latchkeylaw16.ClientTurned': WHATEVER THE INPUT: true; the input reads as it did. -/
def clientTurnedSpec : ChangeSpec := { name := "clientTurned", fn := fun _ => fun
  | [d1, d2, d3, d4] => { results := [.lit (.bool true)], args := [d1, d2, d3, d4] }
  | _ => none }
def clientTurnedRow : OpenClaim := { program := "ytfemncfhiihckaadoor", sum := "608f41bf14f37284ced63852930d1c75d73a818c90a6e987bb829e102a8c9353", func := "latchkey/latchkeylaw16.ClientTurned", spec := "clientTurned", unfollowed := true, recurses := true, named := ["unicode/utf8.first", "unicode/utf8.acceptRanges"], apart := false, laid := [("unicode/utf8.acceptRanges", laid_unicode_utf8_acceptRanges), ("unicode/utf8.first", laid_unicode_utf8_first)] }
def ClientTurnedSaid : Prop := clientTurnedRow.holds Tryd.pinned (OpenSpec.ofChange clientTurnedSpec)

/-- ITS FALSE NEIGHBOUR: 'it returns false'. Refute it at one input. -/
def clientTurnedWrong : ChangeSpec := { name := "clientTurned", fn := fun _ => fun
  | [d1, d2, d3, d4] => { results := [.lit (.bool false)], args := [d1, d2, d3, d4] }
  | _ => none }
def ClientTurnedWrongFalsely : Prop := clientTurnedRow.holds Tryd.pinned (OpenSpec.ofChange clientTurnedWrong)

/-- 'latchkeylaw16.ClientMembers': WHATEVER THE INPUT: true; the input reads as it did. -/
def clientMembersSpec : ChangeSpec := { name := "clientMembers", fn := fun _ => fun
  | [d] => { results := [.lit (.bool true)], args := [d] }
  | _ => none }
def clientMembersRow : OpenClaim := { program := "ytfemncfhiihckaadoor", sum := "608f41bf14f37284ced63852930d1c75d73a818c90a6e987bb829e102a8c9353", func := "latchkey/latchkeylaw16.ClientMembers", spec := "clientMembers", unfollowed := true, recurses := true, named := ["unicode/utf8.first", "unicode/utf8.acceptRanges"], apart := false, laid := [("unicode/utf8.acceptRanges", laid_unicode_utf8_acceptRanges), ("unicode/utf8.first", laid_unicode_utf8_first)] }
def ClientMembersSaid : Prop := clientMembersRow.holds Tryd.pinned (OpenSpec.ofChange clientMembersSpec)

/-- ITS FALSE NEIGHBOUR: 'it returns false'. Refute it at one input. -/
def clientMembersWrong : ChangeSpec := { name := "clientMembers", fn := fun _ => fun
  | [d] => { results := [.lit (.bool false)], args := [d] }
  | _ => none }
def ClientMembersWrongFalsely : Prop := clientMembersRow.holds Tryd.pinned (OpenSpec.ofChange clientMembersWrong)

/-- 'latchkeylaw16.ClientSays': WHATEVER THE INPUT: true; the input reads as it did. -/
def clientSaysSpec : ChangeSpec := { name := "clientSays", fn := fun _ => fun
  | [d1, d2] => { results := [.lit (.bool true)], args := [d1, d2] }
  | _ => none }
def clientSaysRow : OpenClaim := { program := "ytfemncfhiihckaadoor", sum := "608f41bf14f37284ced63852930d1c75d73a818c90a6e987bb829e102a8c9353", func := "latchkey/latchkeylaw16.ClientSays", spec := "clientSays", unfollowed := true, recurses := true, named := ["unicode/utf8.first", "unicode/utf8.acceptRanges"], apart := false, laid := [("unicode/utf8.acceptRanges", laid_unicode_utf8_acceptRanges), ("unicode/utf8.first", laid_unicode_utf8_first)] }
def ClientSaysSaid : Prop := clientSaysRow.holds Tryd.pinned (OpenSpec.ofChange clientSaysSpec)

/-- ITS FALSE NEIGHBOUR: 'it returns false'. Refute it at one input. -/
def clientSaysWrong : ChangeSpec := { name := "clientSays", fn := fun _ => fun
  | [d1, d2] => { results := [.lit (.bool false)], args := [d1, d2] }
  | _ => none }
def ClientSaysWrongFalsely : Prop := clientSaysRow.holds Tryd.pinned (OpenSpec.ofChange clientSaysWrong)

/-- 'latchkeylaw16.ClientMore': WHATEVER THE INPUT: true; the input reads as it did. -/
def clientMoreSpec : ChangeSpec := { name := "clientMore", fn := fun _ => fun
  | [d1, d2, d3, d4] => { results := [.lit (.bool true)], args := [d1, d2, d3, d4] }
  | _ => none }
def clientMoreRow : OpenClaim := { program := "ytfemncfhiihckaadoor", sum := "608f41bf14f37284ced63852930d1c75d73a818c90a6e987bb829e102a8c9353", func := "latchkey/latchkeylaw16.ClientMore", spec := "clientMore", unfollowed := true, recurses := true, named := ["unicode/utf8.first", "unicode/utf8.acceptRanges"], apart := false, laid := [("unicode/utf8.acceptRanges", laid_unicode_utf8_acceptRanges), ("unicode/utf8.first", laid_unicode_utf8_first)] }
def ClientMoreSaid : Prop := clientMoreRow.holds Tryd.pinned (OpenSpec.ofChange clientMoreSpec)

/-- ITS FALSE NEIGHBOUR: 'it returns false'. Refute it at one input. -/
def clientMoreWrong : ChangeSpec := { name := "clientMore", fn := fun _ => fun
  | [d1, d2, d3, d4] => { results := [.lit (.bool false)], args := [d1, d2, d3, d4] }
  | _ => none }
def ClientMoreWrongFalsely : Prop := clientMoreRow.holds Tryd.pinned (OpenSpec.ofChange clientMoreWrong)

/- THE SECOND FORM. 'bulk': how many values and letters a reading holds, each counted each time it is reached (what is shared counts as often as it is met; a slice's spare places count too). A statement '..UptoSaid' is the law's where the arguments, and the package variables that the reading takes, are together of bulk at most 1048576: NARROWER than '..Said'. Prove '..Said' where nothing that the law and all that it calls make is longer than what came in: it says more and counts as full. Else prove '..UptoSaid'. A law counts once. -/
mutual
def uptoBulk {H : Type} : DataW H → Nat
  | .lit (.string bytes) => bytes.length + 1
  | .lit _ => 1
  | .nil => 1
  | .ptr d => uptoBulk d + 1
  | .slice elems spare => uptoBulkAll elems + uptoBulkAll spare + 1
  | .agg parts => uptoBulkAll parts + 1
  | .iface _ d => uptoBulk d + 1
  | .map entries => uptoBulkEntries entries + 1
  | .held _ => 1
def uptoBulkAll {H : Type} : List (DataW H) → Nat
  | [] => 0
  | d :: r => uptoBulk d + uptoBulkAll r
def uptoBulkEntries {H : Type} : List (Lit × DataW H) → Nat
  | [] => 0
  | x :: r => uptoBulkEntry x + uptoBulkEntries r
def uptoBulkEntry {H : Type} : Lit × DataW H → Nat
  | (.string bytes, d) => bytes.length + uptoBulk d + 1
  | (_, d) => uptoBulk d + 1
 end
def uptoSmall : (H : Type) → List (DataW H) → Bool := fun _ ds => decide (uptoBulkAll ds ≤ 1048576)
def OpenSpec.upto (s : _root_.Go.ChangeSpec) : _root_.Go.OpenSpec := { _root_.Go.OpenSpec.ofChange s with cond := some uptoSmall }

/-- 'latchkeylaw05.JsonsTurned', WHERE WHAT IT READS IS OF BULK AT MOST 1048576: true; the input reads as it did. -/
def jsonsTurnedUptoRow : OpenClaim := { program := "ytfemncfhiihckaadoor", sum := "608f41bf14f37284ced63852930d1c75d73a818c90a6e987bb829e102a8c9353", func := "latchkey/latchkeylaw05.JsonsTurned", spec := "jsonsTurned", unfollowed := true, recurses := true, named := ["unicode/utf8.first", "unicode/utf8.acceptRanges"], loops := true, apart := false, laid := [("unicode/utf8.acceptRanges", laid_unicode_utf8_acceptRanges), ("unicode/utf8.first", laid_unicode_utf8_first)], narrowed := true }
def JsonsTurnedUptoSaid : Prop := jsonsTurnedUptoRow.holds Tryd.pinned (OpenSpec.upto jsonsTurnedSpec)

/-- 'latchkeylaw05.JsonsBlanks', WHERE WHAT IT READS IS OF BULK AT MOST 1048576: true; the input reads as it did. -/
def jsonsBlanksUptoRow : OpenClaim := { program := "ytfemncfhiihckaadoor", sum := "608f41bf14f37284ced63852930d1c75d73a818c90a6e987bb829e102a8c9353", func := "latchkey/latchkeylaw05.JsonsBlanks", spec := "jsonsBlanks", unfollowed := true, recurses := true, named := ["unicode/utf8.first", "unicode/utf8.acceptRanges"], loops := true, apart := false, laid := [("unicode/utf8.acceptRanges", laid_unicode_utf8_acceptRanges), ("unicode/utf8.first", laid_unicode_utf8_first)], narrowed := true }
def JsonsBlanksUptoSaid : Prop := jsonsBlanksUptoRow.holds Tryd.pinned (OpenSpec.upto jsonsBlanksSpec)

/-- 'latchkeylaw05.JsonsNumbers', WHERE WHAT IT READS IS OF BULK AT MOST 1048576: true; the input reads as it did. -/
def jsonsNumbersUptoRow : OpenClaim := { program := "ytfemncfhiihckaadoor", sum := "608f41bf14f37284ced63852930d1c75d73a818c90a6e987bb829e102a8c9353", func := "latchkey/latchkeylaw05.JsonsNumbers", spec := "jsonsNumbers", unfollowed := true, recurses := true, named := ["unicode/utf8.first", "unicode/utf8.acceptRanges"], apart := false, laid := [("unicode/utf8.acceptRanges", laid_unicode_utf8_acceptRanges), ("unicode/utf8.first", laid_unicode_utf8_first)], narrowed := true }
def JsonsNumbersUptoSaid : Prop := jsonsNumbersUptoRow.holds Tryd.pinned (OpenSpec.upto jsonsNumbersSpec)

/-- 'latchkeylaw05.JsonsLimits', WHERE WHAT IT READS IS OF BULK AT MOST 1048576: true; the input reads as it did. -/
def jsonsLimitsUptoRow : OpenClaim := { program := "ytfemncfhiihckaadoor", sum := "608f41bf14f37284ced63852930d1c75d73a818c90a6e987bb829e102a8c9353", func := "latchkey/latchkeylaw05.JsonsLimits", spec := "jsonsLimits", unfollowed := true, recurses := true, named := ["unicode/utf8.first", "unicode/utf8.acceptRanges"], apart := false, laid := [("unicode/utf8.acceptRanges", laid_unicode_utf8_acceptRanges), ("unicode/utf8.first", laid_unicode_utf8_first)], narrowed := true }
def JsonsLimitsUptoSaid : Prop := jsonsLimitsUptoRow.holds Tryd.pinned (OpenSpec.upto jsonsLimitsSpec)

/-- 'latchkeylaw05.JsonsJoins', WHERE WHAT IT READS IS OF BULK AT MOST 1048576: true; the input reads as it did. -/
def jsonsJoinsUptoRow : OpenClaim := { program := "ytfemncfhiihckaadoor", sum := "608f41bf14f37284ced63852930d1c75d73a818c90a6e987bb829e102a8c9353", func := "latchkey/latchkeylaw05.JsonsJoins", spec := "jsonsJoins", unfollowed := true, recurses := true, named := ["unicode/utf8.first", "unicode/utf8.acceptRanges"], loops := true, apart := false, laid := [("unicode/utf8.acceptRanges", laid_unicode_utf8_acceptRanges), ("unicode/utf8.first", laid_unicode_utf8_first)], narrowed := true }
def JsonsJoinsUptoSaid : Prop := jsonsJoinsUptoRow.holds Tryd.pinned (OpenSpec.upto jsonsJoinsSpec)

/-- 'latchkeylaw05.JsonsGets', WHERE WHAT IT READS IS OF BULK AT MOST 1048576: true; the input reads as it did. -/
def jsonsGetsUptoRow : OpenClaim := { program := "ytfemncfhiihckaadoor", sum := "608f41bf14f37284ced63852930d1c75d73a818c90a6e987bb829e102a8c9353", func := "latchkey/latchkeylaw05.JsonsGets", spec := "jsonsGets", unfollowed := true, recurses := true, named := ["unicode/utf8.first", "unicode/utf8.acceptRanges"], apart := false, laid := [("unicode/utf8.acceptRanges", laid_unicode_utf8_acceptRanges), ("unicode/utf8.first", laid_unicode_utf8_first)], narrowed := true }
def JsonsGetsUptoSaid : Prop := jsonsGetsUptoRow.holds Tryd.pinned (OpenSpec.upto jsonsGetsSpec)

/-- 'latchkeylaw16.ClientParses', WHERE WHAT IT READS IS OF BULK AT MOST 1048576: true; the input reads as it did. -/
def clientParsesUptoRow : OpenClaim := { program := "ytfemncfhiihckaadoor", sum := "608f41bf14f37284ced63852930d1c75d73a818c90a6e987bb829e102a8c9353", func := "latchkey/latchkeylaw16.ClientParses", spec := "clientParses", unfollowed := true, recurses := true, named := ["unicode/utf8.first", "unicode/utf8.acceptRanges"], apart := false, laid := [("unicode/utf8.acceptRanges", laid_unicode_utf8_acceptRanges), ("unicode/utf8.first", laid_unicode_utf8_first)], narrowed := true }
def ClientParsesUptoSaid : Prop := clientParsesUptoRow.holds Tryd.pinned (OpenSpec.upto clientParsesSpec)

/-- 'latchkeylaw16.ClientTurned', WHERE WHAT IT READS IS OF BULK AT MOST 1048576: true; the input reads as it did. -/
def clientTurnedUptoRow : OpenClaim := { program := "ytfemncfhiihckaadoor", sum := "608f41bf14f37284ced63852930d1c75d73a818c90a6e987bb829e102a8c9353", func := "latchkey/latchkeylaw16.ClientTurned", spec := "clientTurned", unfollowed := true, recurses := true, named := ["unicode/utf8.first", "unicode/utf8.acceptRanges"], apart := false, laid := [("unicode/utf8.acceptRanges", laid_unicode_utf8_acceptRanges), ("unicode/utf8.first", laid_unicode_utf8_first)], narrowed := true }
def ClientTurnedUptoSaid : Prop := clientTurnedUptoRow.holds Tryd.pinned (OpenSpec.upto clientTurnedSpec)

/-- 'latchkeylaw16.ClientMembers', WHERE WHAT IT READS IS OF BULK AT MOST 1048576: true; the input reads as it did. -/
def clientMembersUptoRow : OpenClaim := { program := "ytfemncfhiihckaadoor", sum := "608f41bf14f37284ced63852930d1c75d73a818c90a6e987bb829e102a8c9353", func := "latchkey/latchkeylaw16.ClientMembers", spec := "clientMembers", unfollowed := true, recurses := true, named := ["unicode/utf8.first", "unicode/utf8.acceptRanges"], apart := false, laid := [("unicode/utf8.acceptRanges", laid_unicode_utf8_acceptRanges), ("unicode/utf8.first", laid_unicode_utf8_first)], narrowed := true }
def ClientMembersUptoSaid : Prop := clientMembersUptoRow.holds Tryd.pinned (OpenSpec.upto clientMembersSpec)

/-- 'latchkeylaw16.ClientSays', WHERE WHAT IT READS IS OF BULK AT MOST 1048576: true; the input reads as it did. -/
def clientSaysUptoRow : OpenClaim := { program := "ytfemncfhiihckaadoor", sum := "608f41bf14f37284ced63852930d1c75d73a818c90a6e987bb829e102a8c9353", func := "latchkey/latchkeylaw16.ClientSays", spec := "clientSays", unfollowed := true, recurses := true, named := ["unicode/utf8.first", "unicode/utf8.acceptRanges"], apart := false, laid := [("unicode/utf8.acceptRanges", laid_unicode_utf8_acceptRanges), ("unicode/utf8.first", laid_unicode_utf8_first)], narrowed := true }
def ClientSaysUptoSaid : Prop := clientSaysUptoRow.holds Tryd.pinned (OpenSpec.upto clientSaysSpec)

/-- 'latchkeylaw16.ClientMore', WHERE WHAT IT READS IS OF BULK AT MOST 1048576: true; the input reads as it did. -/
def clientMoreUptoRow : OpenClaim := { program := "ytfemncfhiihckaadoor", sum := "608f41bf14f37284ced63852930d1c75d73a818c90a6e987bb829e102a8c9353", func := "latchkey/latchkeylaw16.ClientMore", spec := "clientMore", unfollowed := true, recurses := true, named := ["unicode/utf8.first", "unicode/utf8.acceptRanges"], apart := false, laid := [("unicode/utf8.acceptRanges", laid_unicode_utf8_acceptRanges), ("unicode/utf8.first", laid_unicode_utf8_first)], narrowed := true }
def ClientMoreUptoSaid : Prop := clientMoreUptoRow.holds Tryd.pinned (OpenSpec.upto clientMoreSpec)

end Rows
end Go.Proofs.YtfemncfhiihckaaDoor
