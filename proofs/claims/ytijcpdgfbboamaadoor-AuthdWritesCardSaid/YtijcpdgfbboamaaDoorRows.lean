/-
  NARROWER THAN 'FOR EVERY INPUT', by the rows' own cells (each row's printed sentence says how): CborDecodes: laid · CborTurned: loops, laid · CborNumbers: laid · AuthdParses: laid · AuthdFlags: laid · CborBack: loops, laid · CborOne: laid · CborEncodes: loops, laid · CborLimits: laid · CborJoins: loops, laid · CborApart: loops, laid · AuthdWrites: loops, laid · AuthdBack: loops, laid · AuthdOne: laid.
  DERIVED. THE GIVEN ROWS OF THIS SEAT. 14 by the template 'for every input the law returns true; each argument reads behind the call as it read before'; 0 by the template 'total and deterministic' (their statements: YtijcpdgfbboamaaDoorTotals.lean).
  GIVEN WITH THE SEED: the statements are not yours to turn. If you find one false, say at which input.
  Laid BY PROGRAM, IN A SANDBOX (cutbox-rows.mjs): the forced cells as the released guide's own fill.sh prints them over the translation 4ba5eb943b9e2e72… (all of the seat's roots in one cut). By AI agents, Wed Nov 11 2026. No macro, syntax, notation, axiom, sorry.
-/
import Derived.Test.YtijcpdgfbboamaaDoorChecked
import GoSem.PinnedTables
import GoSem.Claim
import GoSem.ClaimJoined
import GoSem.ClaimMapViews
import Derived.JoinedTies
import Derived.KernelRfl
namespace Go.Proofs.YtijcpdgfbboamaaDoor
/- THE CELL 'sum', in the pinned program and in every row, IS THE sha256 OF THE DUMP (.gsa) THAT YtijcpdgfbboamaaDoorProg.lean LOADS. Nothing in Lean hashes anything: it is a label: what it is worth is what the hold of that sum in a sandbox is worth. -/
noncomputable def Tryd.pinned : Pinned := { name := "ytijcpdgfbboamaadoor", sum := "4ba5eb943b9e2e729891dd552c59f1195c56069e70e2f2822bc4ad6e6ceb1045", checked := Tryd.checked }
namespace Rows
def none {H : Type} : Left H := { results := [], args := [] }

/- WHAT THE LISTED PACKAGE-LEVEL VARIABLES READ AS WHEN THE CALL BEGINS. Each datum BY PROGRAM (the guide's laid-datum.mjs) off the statement by which the dump's own 'gosem.cut.vars' lays the variable. In a bare row this is a premise. The card (YtijcpdgfbboamaaDoorCards.lean) ties it to the program's text. -/
def laid_unicode_utf8_acceptRanges {H : Type} : DataW H := .agg [.agg [.lit (.int .u8 128), .lit (.int .u8 191)], .agg [.lit (.int .u8 160), .lit (.int .u8 191)], .agg [.lit (.int .u8 128), .lit (.int .u8 159)], .agg [.lit (.int .u8 144), .lit (.int .u8 191)], .agg [.lit (.int .u8 128), .lit (.int .u8 143)], .agg [.lit (.int .u8 0), .lit (.int .u8 0)], .agg [.lit (.int .u8 0), .lit (.int .u8 0)], .agg [.lit (.int .u8 0), .lit (.int .u8 0)], .agg [.lit (.int .u8 0), .lit (.int .u8 0)], .agg [.lit (.int .u8 0), .lit (.int .u8 0)], .agg [.lit (.int .u8 0), .lit (.int .u8 0)], .agg [.lit (.int .u8 0), .lit (.int .u8 0)], .agg [.lit (.int .u8 0), .lit (.int .u8 0)], .agg [.lit (.int .u8 0), .lit (.int .u8 0)], .agg [.lit (.int .u8 0), .lit (.int .u8 0)], .agg [.lit (.int .u8 0), .lit (.int .u8 0)]]
/-- One of Go's own tables, pinned by name: the form's constant. -/
def laid_unicode_utf8_first : DataW Unit := Go.Pinned.utf8First

/-- 'latchkeylaw06.CborDecodes': WHATEVER THE INPUT: true; the input reads as it did. -/
def cborDecodesSpec : ChangeSpec := { name := "cborDecodes", fn := fun _ => fun
  | [d] => { results := [.lit (.bool true)], args := [d] }
  | _ => none }
def cborDecodesRow : OpenClaim := { program := "ytijcpdgfbboamaadoor", sum := "4ba5eb943b9e2e729891dd552c59f1195c56069e70e2f2822bc4ad6e6ceb1045", func := "latchkey/latchkeylaw06.CborDecodes", spec := "cborDecodes", inPlace := ["internal/bytealg.Compare"], recurses := true, named := ["unicode/utf8.first", "unicode/utf8.acceptRanges"], apart := false, laid := [("unicode/utf8.acceptRanges", laid_unicode_utf8_acceptRanges), ("unicode/utf8.first", laid_unicode_utf8_first)] }
def CborDecodesSaid : Prop := cborDecodesRow.holds Tryd.pinned (OpenSpec.ofChange cborDecodesSpec)

/-- ITS FALSE NEIGHBOUR: 'it returns false'. Refute it at one input. -/
def cborDecodesWrong : ChangeSpec := { name := "cborDecodes", fn := fun _ => fun
  | [d] => { results := [.lit (.bool false)], args := [d] }
  | _ => none }
def CborDecodesWrongFalsely : Prop := cborDecodesRow.holds Tryd.pinned (OpenSpec.ofChange cborDecodesWrong)

/-- 'latchkeylaw06.CborTurned': WHATEVER THE INPUT: true; the input reads as it did. -/
def cborTurnedSpec : ChangeSpec := { name := "cborTurned", fn := fun _ => fun
  | [d1, d2, d3] => { results := [.lit (.bool true)], args := [d1, d2, d3] }
  | _ => none }
def cborTurnedRow : OpenClaim := { program := "ytijcpdgfbboamaadoor", sum := "4ba5eb943b9e2e729891dd552c59f1195c56069e70e2f2822bc4ad6e6ceb1045", func := "latchkey/latchkeylaw06.CborTurned", spec := "cborTurned", inPlace := ["internal/bytealg.Compare"], recurses := true, named := ["unicode/utf8.first", "unicode/utf8.acceptRanges"], loops := true, apart := false, laid := [("unicode/utf8.acceptRanges", laid_unicode_utf8_acceptRanges), ("unicode/utf8.first", laid_unicode_utf8_first)] }
def CborTurnedSaid : Prop := cborTurnedRow.holds Tryd.pinned (OpenSpec.ofChange cborTurnedSpec)

/-- ITS FALSE NEIGHBOUR: 'it returns false'. Refute it at one input. -/
def cborTurnedWrong : ChangeSpec := { name := "cborTurned", fn := fun _ => fun
  | [d1, d2, d3] => { results := [.lit (.bool false)], args := [d1, d2, d3] }
  | _ => none }
def CborTurnedWrongFalsely : Prop := cborTurnedRow.holds Tryd.pinned (OpenSpec.ofChange cborTurnedWrong)

/-- 'latchkeylaw06.CborNumbers': WHATEVER THE INPUT: true; the input reads as it did. -/
def cborNumbersSpec : ChangeSpec := { name := "cborNumbers", fn := fun _ => fun
  | [d1, d2, d3] => { results := [.lit (.bool true)], args := [d1, d2, d3] }
  | _ => none }
def cborNumbersRow : OpenClaim := { program := "ytijcpdgfbboamaadoor", sum := "4ba5eb943b9e2e729891dd552c59f1195c56069e70e2f2822bc4ad6e6ceb1045", func := "latchkey/latchkeylaw06.CborNumbers", spec := "cborNumbers", inPlace := ["internal/bytealg.Compare"], recurses := true, named := ["unicode/utf8.first", "unicode/utf8.acceptRanges"], apart := false, laid := [("unicode/utf8.acceptRanges", laid_unicode_utf8_acceptRanges), ("unicode/utf8.first", laid_unicode_utf8_first)] }
def CborNumbersSaid : Prop := cborNumbersRow.holds Tryd.pinned (OpenSpec.ofChange cborNumbersSpec)

/-- ITS FALSE NEIGHBOUR: 'it returns false'. Refute it at one input. -/
def cborNumbersWrong : ChangeSpec := { name := "cborNumbers", fn := fun _ => fun
  | [d1, d2, d3] => { results := [.lit (.bool false)], args := [d1, d2, d3] }
  | _ => none }
def CborNumbersWrongFalsely : Prop := cborNumbersRow.holds Tryd.pinned (OpenSpec.ofChange cborNumbersWrong)

/-- 'latchkeylaw15.AuthdParses': WHATEVER THE INPUT: true; the input reads as it did. -/
def authdParsesSpec : ChangeSpec := { name := "authdParses", fn := fun _ => fun
  | [d1, d2, d3, d4] => { results := [.lit (.bool true)], args := [d1, d2, d3, d4] }
  | _ => none }
def authdParsesRow : OpenClaim := { program := "ytijcpdgfbboamaadoor", sum := "4ba5eb943b9e2e729891dd552c59f1195c56069e70e2f2822bc4ad6e6ceb1045", func := "latchkey/latchkeylaw15.AuthdParses", spec := "authdParses", inPlace := ["internal/bytealg.Compare"], recurses := true, named := ["unicode/utf8.first", "unicode/utf8.acceptRanges"], apart := false, laid := [("unicode/utf8.acceptRanges", laid_unicode_utf8_acceptRanges), ("unicode/utf8.first", laid_unicode_utf8_first)] }
def AuthdParsesSaid : Prop := authdParsesRow.holds Tryd.pinned (OpenSpec.ofChange authdParsesSpec)

/-- ITS FALSE NEIGHBOUR: 'it returns false'. Refute it at one input. -/
def authdParsesWrong : ChangeSpec := { name := "authdParses", fn := fun _ => fun
  | [d1, d2, d3, d4] => { results := [.lit (.bool false)], args := [d1, d2, d3, d4] }
  | _ => none }
def AuthdParsesWrongFalsely : Prop := authdParsesRow.holds Tryd.pinned (OpenSpec.ofChange authdParsesWrong)

/-- 'latchkeylaw15.AuthdFlags': WHATEVER THE INPUT: true; the input reads as it did. -/
def authdFlagsSpec : ChangeSpec := { name := "authdFlags", fn := fun _ => fun
  | [d1, d2, d3, d4] => { results := [.lit (.bool true)], args := [d1, d2, d3, d4] }
  | _ => none }
def authdFlagsRow : OpenClaim := { program := "ytijcpdgfbboamaadoor", sum := "4ba5eb943b9e2e729891dd552c59f1195c56069e70e2f2822bc4ad6e6ceb1045", func := "latchkey/latchkeylaw15.AuthdFlags", spec := "authdFlags", inPlace := ["internal/bytealg.Compare"], recurses := true, named := ["unicode/utf8.first", "unicode/utf8.acceptRanges"], apart := false, laid := [("unicode/utf8.acceptRanges", laid_unicode_utf8_acceptRanges), ("unicode/utf8.first", laid_unicode_utf8_first)] }
def AuthdFlagsSaid : Prop := authdFlagsRow.holds Tryd.pinned (OpenSpec.ofChange authdFlagsSpec)

/-- ITS FALSE NEIGHBOUR: 'it returns false'. Refute it at one input. -/
def authdFlagsWrong : ChangeSpec := { name := "authdFlags", fn := fun _ => fun
  | [d1, d2, d3, d4] => { results := [.lit (.bool false)], args := [d1, d2, d3, d4] }
  | _ => none }
def AuthdFlagsWrongFalsely : Prop := authdFlagsRow.holds Tryd.pinned (OpenSpec.ofChange authdFlagsWrong)

/-- 'latchkeylaw06.CborBack': WHATEVER THE INPUT: true; the input reads as it did. -/
def cborBackSpec : ChangeSpec := { name := "cborBack", fn := fun _ => fun
  | [d1, d2] => { results := [.lit (.bool true)], args := [d1, d2] }
  | _ => none }
def cborBackRow : OpenClaim := { program := "ytijcpdgfbboamaadoor", sum := "4ba5eb943b9e2e729891dd552c59f1195c56069e70e2f2822bc4ad6e6ceb1045", func := "latchkey/latchkeylaw06.CborBack", spec := "cborBack", inPlace := ["internal/bytealg.Compare"], recurses := true, named := ["unicode/utf8.first", "unicode/utf8.acceptRanges"], loops := true, apart := false, laid := [("unicode/utf8.acceptRanges", laid_unicode_utf8_acceptRanges), ("unicode/utf8.first", laid_unicode_utf8_first)] }
def CborBackSaid : Prop := cborBackRow.holds Tryd.pinned (OpenSpec.ofChange cborBackSpec)

/-- ITS FALSE NEIGHBOUR: 'it returns false'. Refute it at one input. -/
def cborBackWrong : ChangeSpec := { name := "cborBack", fn := fun _ => fun
  | [d1, d2] => { results := [.lit (.bool false)], args := [d1, d2] }
  | _ => none }
def CborBackWrongFalsely : Prop := cborBackRow.holds Tryd.pinned (OpenSpec.ofChange cborBackWrong)

/-- 'latchkeylaw06.CborOne': WHATEVER THE INPUT: true; the input reads as it did. -/
def cborOneSpec : ChangeSpec := { name := "cborOne", fn := fun _ => fun
  | [d] => { results := [.lit (.bool true)], args := [d] }
  | _ => none }
def cborOneRow : OpenClaim := { program := "ytijcpdgfbboamaadoor", sum := "4ba5eb943b9e2e729891dd552c59f1195c56069e70e2f2822bc4ad6e6ceb1045", func := "latchkey/latchkeylaw06.CborOne", spec := "cborOne", inPlace := ["internal/bytealg.Compare"], recurses := true, named := ["unicode/utf8.first", "unicode/utf8.acceptRanges"], apart := false, laid := [("unicode/utf8.acceptRanges", laid_unicode_utf8_acceptRanges), ("unicode/utf8.first", laid_unicode_utf8_first)] }
def CborOneSaid : Prop := cborOneRow.holds Tryd.pinned (OpenSpec.ofChange cborOneSpec)

/-- ITS FALSE NEIGHBOUR: 'it returns false'. Refute it at one input. -/
def cborOneWrong : ChangeSpec := { name := "cborOne", fn := fun _ => fun
  | [d] => { results := [.lit (.bool false)], args := [d] }
  | _ => none }
def CborOneWrongFalsely : Prop := cborOneRow.holds Tryd.pinned (OpenSpec.ofChange cborOneWrong)

/-- 'latchkeylaw06.CborEncodes': WHATEVER THE INPUT: true; the input reads as it did. -/
def cborEncodesSpec : ChangeSpec := { name := "cborEncodes", fn := fun _ => fun
  | [d1, d2, d3, d4] => { results := [.lit (.bool true)], args := [d1, d2, d3, d4] }
  | _ => none }
def cborEncodesRow : OpenClaim := { program := "ytijcpdgfbboamaadoor", sum := "4ba5eb943b9e2e729891dd552c59f1195c56069e70e2f2822bc4ad6e6ceb1045", func := "latchkey/latchkeylaw06.CborEncodes", spec := "cborEncodes", inPlace := ["internal/bytealg.Compare"], recurses := true, named := ["unicode/utf8.first", "unicode/utf8.acceptRanges"], loops := true, apart := false, laid := [("unicode/utf8.acceptRanges", laid_unicode_utf8_acceptRanges), ("unicode/utf8.first", laid_unicode_utf8_first)] }
def CborEncodesSaid : Prop := cborEncodesRow.holds Tryd.pinned (OpenSpec.ofChange cborEncodesSpec)

/-- ITS FALSE NEIGHBOUR: 'it returns false'. Refute it at one input. -/
def cborEncodesWrong : ChangeSpec := { name := "cborEncodes", fn := fun _ => fun
  | [d1, d2, d3, d4] => { results := [.lit (.bool false)], args := [d1, d2, d3, d4] }
  | _ => none }
def CborEncodesWrongFalsely : Prop := cborEncodesRow.holds Tryd.pinned (OpenSpec.ofChange cborEncodesWrong)

/-- 'latchkeylaw06.CborLimits': WHATEVER THE INPUT: true; the input reads as it did. -/
def cborLimitsSpec : ChangeSpec := { name := "cborLimits", fn := fun _ => fun
  | [d1, d2] => { results := [.lit (.bool true)], args := [d1, d2] }
  | _ => none }
def cborLimitsRow : OpenClaim := { program := "ytijcpdgfbboamaadoor", sum := "4ba5eb943b9e2e729891dd552c59f1195c56069e70e2f2822bc4ad6e6ceb1045", func := "latchkey/latchkeylaw06.CborLimits", spec := "cborLimits", inPlace := ["internal/bytealg.Compare"], recurses := true, named := ["unicode/utf8.first", "unicode/utf8.acceptRanges"], apart := false, laid := [("unicode/utf8.acceptRanges", laid_unicode_utf8_acceptRanges), ("unicode/utf8.first", laid_unicode_utf8_first)] }
def CborLimitsSaid : Prop := cborLimitsRow.holds Tryd.pinned (OpenSpec.ofChange cborLimitsSpec)

/-- ITS FALSE NEIGHBOUR: 'it returns false'. Refute it at one input. -/
def cborLimitsWrong : ChangeSpec := { name := "cborLimits", fn := fun _ => fun
  | [d1, d2] => { results := [.lit (.bool false)], args := [d1, d2] }
  | _ => none }
def CborLimitsWrongFalsely : Prop := cborLimitsRow.holds Tryd.pinned (OpenSpec.ofChange cborLimitsWrong)

/-- 'latchkeylaw06.CborJoins': WHATEVER THE INPUT: true; the input reads as it did. -/
def cborJoinsSpec : ChangeSpec := { name := "cborJoins", fn := fun _ => fun
  | [d] => { results := [.lit (.bool true)], args := [d] }
  | _ => none }
def cborJoinsRow : OpenClaim := { program := "ytijcpdgfbboamaadoor", sum := "4ba5eb943b9e2e729891dd552c59f1195c56069e70e2f2822bc4ad6e6ceb1045", func := "latchkey/latchkeylaw06.CborJoins", spec := "cborJoins", inPlace := ["internal/bytealg.Compare"], recurses := true, named := ["unicode/utf8.first", "unicode/utf8.acceptRanges"], loops := true, apart := false, laid := [("unicode/utf8.acceptRanges", laid_unicode_utf8_acceptRanges), ("unicode/utf8.first", laid_unicode_utf8_first)] }
def CborJoinsSaid : Prop := cborJoinsRow.holds Tryd.pinned (OpenSpec.ofChange cborJoinsSpec)

/-- ITS FALSE NEIGHBOUR: 'it returns false'. Refute it at one input. -/
def cborJoinsWrong : ChangeSpec := { name := "cborJoins", fn := fun _ => fun
  | [d] => { results := [.lit (.bool false)], args := [d] }
  | _ => none }
def CborJoinsWrongFalsely : Prop := cborJoinsRow.holds Tryd.pinned (OpenSpec.ofChange cborJoinsWrong)

/-- 'latchkeylaw06.CborApart': WHATEVER THE INPUT: true; the input reads as it did. -/
def cborApartSpec : ChangeSpec := { name := "cborApart", fn := fun _ => fun
  | [d1, d2] => { results := [.lit (.bool true)], args := [d1, d2] }
  | _ => none }
def cborApartRow : OpenClaim := { program := "ytijcpdgfbboamaadoor", sum := "4ba5eb943b9e2e729891dd552c59f1195c56069e70e2f2822bc4ad6e6ceb1045", func := "latchkey/latchkeylaw06.CborApart", spec := "cborApart", inPlace := ["internal/bytealg.Compare"], recurses := true, named := ["unicode/utf8.first", "unicode/utf8.acceptRanges"], loops := true, apart := false, laid := [("unicode/utf8.acceptRanges", laid_unicode_utf8_acceptRanges), ("unicode/utf8.first", laid_unicode_utf8_first)] }
def CborApartSaid : Prop := cborApartRow.holds Tryd.pinned (OpenSpec.ofChange cborApartSpec)

/-- ITS FALSE NEIGHBOUR: 'it returns false'. Refute it at one input. -/
def cborApartWrong : ChangeSpec := { name := "cborApart", fn := fun _ => fun
  | [d1, d2] => { results := [.lit (.bool false)], args := [d1, d2] }
  | _ => none }
def CborApartWrongFalsely : Prop := cborApartRow.holds Tryd.pinned (OpenSpec.ofChange cborApartWrong)

/-- 'latchkeylaw15.AuthdWrites': WHATEVER THE INPUT: true; the input reads as it did. -/
def authdWritesSpec : ChangeSpec := { name := "authdWrites", fn := fun _ => fun
  | [d1, d2, d3, d4] => { results := [.lit (.bool true)], args := [d1, d2, d3, d4] }
  | _ => none }
def authdWritesRow : OpenClaim := { program := "ytijcpdgfbboamaadoor", sum := "4ba5eb943b9e2e729891dd552c59f1195c56069e70e2f2822bc4ad6e6ceb1045", func := "latchkey/latchkeylaw15.AuthdWrites", spec := "authdWrites", inPlace := ["internal/bytealg.Compare"], recurses := true, named := ["unicode/utf8.first", "unicode/utf8.acceptRanges"], loops := true, apart := false, laid := [("unicode/utf8.acceptRanges", laid_unicode_utf8_acceptRanges), ("unicode/utf8.first", laid_unicode_utf8_first)] }
def AuthdWritesSaid : Prop := authdWritesRow.holds Tryd.pinned (OpenSpec.ofChange authdWritesSpec)

/-- ITS FALSE NEIGHBOUR: 'it returns false'. Refute it at one input. -/
def authdWritesWrong : ChangeSpec := { name := "authdWrites", fn := fun _ => fun
  | [d1, d2, d3, d4] => { results := [.lit (.bool false)], args := [d1, d2, d3, d4] }
  | _ => none }
def AuthdWritesWrongFalsely : Prop := authdWritesRow.holds Tryd.pinned (OpenSpec.ofChange authdWritesWrong)

/-- 'latchkeylaw15.AuthdBack': WHATEVER THE INPUT: true; the input reads as it did. -/
def authdBackSpec : ChangeSpec := { name := "authdBack", fn := fun _ => fun
  | [d1, d2, d3, d4] => { results := [.lit (.bool true)], args := [d1, d2, d3, d4] }
  | _ => none }
def authdBackRow : OpenClaim := { program := "ytijcpdgfbboamaadoor", sum := "4ba5eb943b9e2e729891dd552c59f1195c56069e70e2f2822bc4ad6e6ceb1045", func := "latchkey/latchkeylaw15.AuthdBack", spec := "authdBack", inPlace := ["internal/bytealg.Compare"], recurses := true, named := ["unicode/utf8.first", "unicode/utf8.acceptRanges"], loops := true, apart := false, laid := [("unicode/utf8.acceptRanges", laid_unicode_utf8_acceptRanges), ("unicode/utf8.first", laid_unicode_utf8_first)] }
def AuthdBackSaid : Prop := authdBackRow.holds Tryd.pinned (OpenSpec.ofChange authdBackSpec)

/-- ITS FALSE NEIGHBOUR: 'it returns false'. Refute it at one input. -/
def authdBackWrong : ChangeSpec := { name := "authdBack", fn := fun _ => fun
  | [d1, d2, d3, d4] => { results := [.lit (.bool false)], args := [d1, d2, d3, d4] }
  | _ => none }
def AuthdBackWrongFalsely : Prop := authdBackRow.holds Tryd.pinned (OpenSpec.ofChange authdBackWrong)

/-- 'latchkeylaw15.AuthdOne': WHATEVER THE INPUT: true; the input reads as it did. -/
def authdOneSpec : ChangeSpec := { name := "authdOne", fn := fun _ => fun
  | [d1, d2, d3] => { results := [.lit (.bool true)], args := [d1, d2, d3] }
  | _ => none }
def authdOneRow : OpenClaim := { program := "ytijcpdgfbboamaadoor", sum := "4ba5eb943b9e2e729891dd552c59f1195c56069e70e2f2822bc4ad6e6ceb1045", func := "latchkey/latchkeylaw15.AuthdOne", spec := "authdOne", inPlace := ["internal/bytealg.Compare"], recurses := true, named := ["unicode/utf8.first", "unicode/utf8.acceptRanges"], apart := false, laid := [("unicode/utf8.acceptRanges", laid_unicode_utf8_acceptRanges), ("unicode/utf8.first", laid_unicode_utf8_first)] }
def AuthdOneSaid : Prop := authdOneRow.holds Tryd.pinned (OpenSpec.ofChange authdOneSpec)

/-- ITS FALSE NEIGHBOUR: 'it returns false'. Refute it at one input. -/
def authdOneWrong : ChangeSpec := { name := "authdOne", fn := fun _ => fun
  | [d1, d2, d3] => { results := [.lit (.bool false)], args := [d1, d2, d3] }
  | _ => none }
def AuthdOneWrongFalsely : Prop := authdOneRow.holds Tryd.pinned (OpenSpec.ofChange authdOneWrong)

/- THE SECOND FORM. 'bulk': how many values and letters a reading holds, each counted each time it is reached (what is shared counts as often as it is met; a slice's spare places count too). A statement '..UptoSaid' is the law's where the arguments, and the package variables that the reading takes, are together of bulk at most 1048576: NARROWER than '..Said'. Prove '..Said' where nothing that the law and all that it calls make is longer than what came in: it says more and counts as full. Else prove '..UptoSaid'. A law counts once. -/
mutual
def uptoBulk {H : Type} : DataW H → Nat
  | .lit (.string bytes) => bytes.length + 1
  | .lit _ => 1
  | .nil => 1
  | .ptr d => uptoBulk d + 1
  | .slice elems spare => uptoBulkAll elems + uptoBulkAll spare + 1
  | .agg parts => uptoBulkAll parts + 1
  | .iface _ d => uptoBulk d + 1
  | .map entries => uptoBulkEntries entries + 1
  | .held _ => 1
def uptoBulkAll {H : Type} : List (DataW H) → Nat
  | [] => 0
  | d :: r => uptoBulk d + uptoBulkAll r
def uptoBulkEntries {H : Type} : List (Lit × DataW H) → Nat
  | [] => 0
  | x :: r => uptoBulkEntry x + uptoBulkEntries r
def uptoBulkEntry {H : Type} : Lit × DataW H → Nat
  | (.string bytes, d) => bytes.length + uptoBulk d + 1
  | (_, d) => uptoBulk d + 1
 end
def uptoSmall : (H : Type) → List (DataW H) → Bool := fun _ ds => decide (uptoBulkAll ds ≤ 1048576)
def OpenSpec.upto (s : _root_.Go.ChangeSpec) : _root_.Go.OpenSpec := { _root_.Go.OpenSpec.ofChange s with cond := some uptoSmall }

/-- 'latchkeylaw06.CborDecodes', WHERE WHAT IT READS IS OF BULK AT MOST 1048576: true; the input reads as it did. -/
def cborDecodesUptoRow : OpenClaim := { program := "ytijcpdgfbboamaadoor", sum := "4ba5eb943b9e2e729891dd552c59f1195c56069e70e2f2822bc4ad6e6ceb1045", func := "latchkey/latchkeylaw06.CborDecodes", spec := "cborDecodes", inPlace := ["internal/bytealg.Compare"], recurses := true, named := ["unicode/utf8.first", "unicode/utf8.acceptRanges"], apart := false, laid := [("unicode/utf8.acceptRanges", laid_unicode_utf8_acceptRanges), ("unicode/utf8.first", laid_unicode_utf8_first)], narrowed := true }
def CborDecodesUptoSaid : Prop := cborDecodesUptoRow.holds Tryd.pinned (OpenSpec.upto cborDecodesSpec)

/-- 'latchkeylaw06.CborTurned', WHERE WHAT IT READS IS OF BULK AT MOST 1048576: true; the input reads as it did. -/
def cborTurnedUptoRow : OpenClaim := { program := "ytijcpdgfbboamaadoor", sum := "4ba5eb943b9e2e729891dd552c59f1195c56069e70e2f2822bc4ad6e6ceb1045", func := "latchkey/latchkeylaw06.CborTurned", spec := "cborTurned", inPlace := ["internal/bytealg.Compare"], recurses := true, named := ["unicode/utf8.first", "unicode/utf8.acceptRanges"], loops := true, apart := false, laid := [("unicode/utf8.acceptRanges", laid_unicode_utf8_acceptRanges), ("unicode/utf8.first", laid_unicode_utf8_first)], narrowed := true }
def CborTurnedUptoSaid : Prop := cborTurnedUptoRow.holds Tryd.pinned (OpenSpec.upto cborTurnedSpec)

/-- 'latchkeylaw06.CborNumbers', WHERE WHAT IT READS IS OF BULK AT MOST 1048576: true; the input reads as it did. -/
def cborNumbersUptoRow : OpenClaim := { program := "ytijcpdgfbboamaadoor", sum := "4ba5eb943b9e2e729891dd552c59f1195c56069e70e2f2822bc4ad6e6ceb1045", func := "latchkey/latchkeylaw06.CborNumbers", spec := "cborNumbers", inPlace := ["internal/bytealg.Compare"], recurses := true, named := ["unicode/utf8.first", "unicode/utf8.acceptRanges"], apart := false, laid := [("unicode/utf8.acceptRanges", laid_unicode_utf8_acceptRanges), ("unicode/utf8.first", laid_unicode_utf8_first)], narrowed := true }
def CborNumbersUptoSaid : Prop := cborNumbersUptoRow.holds Tryd.pinned (OpenSpec.upto cborNumbersSpec)

/-- 'latchkeylaw15.AuthdParses', WHERE WHAT IT READS IS OF BULK AT MOST 1048576: true; the input reads as it did. -/
def authdParsesUptoRow : OpenClaim := { program := "ytijcpdgfbboamaadoor", sum := "4ba5eb943b9e2e729891dd552c59f1195c56069e70e2f2822bc4ad6e6ceb1045", func := "latchkey/latchkeylaw15.AuthdParses", spec := "authdParses", inPlace := ["internal/bytealg.Compare"], recurses := true, named := ["unicode/utf8.first", "unicode/utf8.acceptRanges"], apart := false, laid := [("unicode/utf8.acceptRanges", laid_unicode_utf8_acceptRanges), ("unicode/utf8.first", laid_unicode_utf8_first)], narrowed := true }
def AuthdParsesUptoSaid : Prop := authdParsesUptoRow.holds Tryd.pinned (OpenSpec.upto authdParsesSpec)

/-- 'latchkeylaw15.AuthdFlags', WHERE WHAT IT READS IS OF BULK AT MOST 1048576: true; the input reads as it did. -/
def authdFlagsUptoRow : OpenClaim := { program := "ytijcpdgfbboamaadoor", sum := "4ba5eb943b9e2e729891dd552c59f1195c56069e70e2f2822bc4ad6e6ceb1045", func := "latchkey/latchkeylaw15.AuthdFlags", spec := "authdFlags", inPlace := ["internal/bytealg.Compare"], recurses := true, named := ["unicode/utf8.first", "unicode/utf8.acceptRanges"], apart := false, laid := [("unicode/utf8.acceptRanges", laid_unicode_utf8_acceptRanges), ("unicode/utf8.first", laid_unicode_utf8_first)], narrowed := true }
def AuthdFlagsUptoSaid : Prop := authdFlagsUptoRow.holds Tryd.pinned (OpenSpec.upto authdFlagsSpec)

/-- 'latchkeylaw06.CborBack', WHERE WHAT IT READS IS OF BULK AT MOST 1048576: true; the input reads as it did. -/
def cborBackUptoRow : OpenClaim := { program := "ytijcpdgfbboamaadoor", sum := "4ba5eb943b9e2e729891dd552c59f1195c56069e70e2f2822bc4ad6e6ceb1045", func := "latchkey/latchkeylaw06.CborBack", spec := "cborBack", inPlace := ["internal/bytealg.Compare"], recurses := true, named := ["unicode/utf8.first", "unicode/utf8.acceptRanges"], loops := true, apart := false, laid := [("unicode/utf8.acceptRanges", laid_unicode_utf8_acceptRanges), ("unicode/utf8.first", laid_unicode_utf8_first)], narrowed := true }
def CborBackUptoSaid : Prop := cborBackUptoRow.holds Tryd.pinned (OpenSpec.upto cborBackSpec)

/-- 'latchkeylaw06.CborOne', WHERE WHAT IT READS IS OF BULK AT MOST 1048576: true; the input reads as it did. -/
def cborOneUptoRow : OpenClaim := { program := "ytijcpdgfbboamaadoor", sum := "4ba5eb943b9e2e729891dd552c59f1195c56069e70e2f2822bc4ad6e6ceb1045", func := "latchkey/latchkeylaw06.CborOne", spec := "cborOne", inPlace := ["internal/bytealg.Compare"], recurses := true, named := ["unicode/utf8.first", "unicode/utf8.acceptRanges"], apart := false, laid := [("unicode/utf8.acceptRanges", laid_unicode_utf8_acceptRanges), ("unicode/utf8.first", laid_unicode_utf8_first)], narrowed := true }
def CborOneUptoSaid : Prop := cborOneUptoRow.holds Tryd.pinned (OpenSpec.upto cborOneSpec)

/-- 'latchkeylaw06.CborEncodes', WHERE WHAT IT READS IS OF BULK AT MOST 1048576: true; the input reads as it did. -/
def cborEncodesUptoRow : OpenClaim := { program := "ytijcpdgfbboamaadoor", sum := "4ba5eb943b9e2e729891dd552c59f1195c56069e70e2f2822bc4ad6e6ceb1045", func := "latchkey/latchkeylaw06.CborEncodes", spec := "cborEncodes", inPlace := ["internal/bytealg.Compare"], recurses := true, named := ["unicode/utf8.first", "unicode/utf8.acceptRanges"], loops := true, apart := false, laid := [("unicode/utf8.acceptRanges", laid_unicode_utf8_acceptRanges), ("unicode/utf8.first", laid_unicode_utf8_first)], narrowed := true }
def CborEncodesUptoSaid : Prop := cborEncodesUptoRow.holds Tryd.pinned (OpenSpec.upto cborEncodesSpec)

/-- 'latchkeylaw06.CborLimits', WHERE WHAT IT READS IS OF BULK AT MOST 1048576: true; the input reads as it did. -/
def cborLimitsUptoRow : OpenClaim := { program := "ytijcpdgfbboamaadoor", sum := "4ba5eb943b9e2e729891dd552c59f1195c56069e70e2f2822bc4ad6e6ceb1045", func := "latchkey/latchkeylaw06.CborLimits", spec := "cborLimits", inPlace := ["internal/bytealg.Compare"], recurses := true, named := ["unicode/utf8.first", "unicode/utf8.acceptRanges"], apart := false, laid := [("unicode/utf8.acceptRanges", laid_unicode_utf8_acceptRanges), ("unicode/utf8.first", laid_unicode_utf8_first)], narrowed := true }
def CborLimitsUptoSaid : Prop := cborLimitsUptoRow.holds Tryd.pinned (OpenSpec.upto cborLimitsSpec)

/-- 'latchkeylaw06.CborJoins', WHERE WHAT IT READS IS OF BULK AT MOST 1048576: true; the input reads as it did. -/
def cborJoinsUptoRow : OpenClaim := { program := "ytijcpdgfbboamaadoor", sum := "4ba5eb943b9e2e729891dd552c59f1195c56069e70e2f2822bc4ad6e6ceb1045", func := "latchkey/latchkeylaw06.CborJoins", spec := "cborJoins", inPlace := ["internal/bytealg.Compare"], recurses := true, named := ["unicode/utf8.first", "unicode/utf8.acceptRanges"], loops := true, apart := false, laid := [("unicode/utf8.acceptRanges", laid_unicode_utf8_acceptRanges), ("unicode/utf8.first", laid_unicode_utf8_first)], narrowed := true }
def CborJoinsUptoSaid : Prop := cborJoinsUptoRow.holds Tryd.pinned (OpenSpec.upto cborJoinsSpec)

/-- 'latchkeylaw06.CborApart', WHERE WHAT IT READS IS OF BULK AT MOST 1048576: true; the input reads as it did. -/
def cborApartUptoRow : OpenClaim := { program := "ytijcpdgfbboamaadoor", sum := "4ba5eb943b9e2e729891dd552c59f1195c56069e70e2f2822bc4ad6e6ceb1045", func := "latchkey/latchkeylaw06.CborApart", spec := "cborApart", inPlace := ["internal/bytealg.Compare"], recurses := true, named := ["unicode/utf8.first", "unicode/utf8.acceptRanges"], loops := true, apart := false, laid := [("unicode/utf8.acceptRanges", laid_unicode_utf8_acceptRanges), ("unicode/utf8.first", laid_unicode_utf8_first)], narrowed := true }
def CborApartUptoSaid : Prop := cborApartUptoRow.holds Tryd.pinned (OpenSpec.upto cborApartSpec)

/-- 'latchkeylaw15.AuthdWrites', WHERE WHAT IT READS IS OF BULK AT MOST 1048576: true; the input reads as it did. -/
def authdWritesUptoRow : OpenClaim := { program := "ytijcpdgfbboamaadoor", sum := "4ba5eb943b9e2e729891dd552c59f1195c56069e70e2f2822bc4ad6e6ceb1045", func := "latchkey/latchkeylaw15.AuthdWrites", spec := "authdWrites", inPlace := ["internal/bytealg.Compare"], recurses := true, named := ["unicode/utf8.first", "unicode/utf8.acceptRanges"], loops := true, apart := false, laid := [("unicode/utf8.acceptRanges", laid_unicode_utf8_acceptRanges), ("unicode/utf8.first", laid_unicode_utf8_first)], narrowed := true }
def AuthdWritesUptoSaid : Prop := authdWritesUptoRow.holds Tryd.pinned (OpenSpec.upto authdWritesSpec)

/-- 'latchkeylaw15.AuthdBack', WHERE WHAT IT READS IS OF BULK AT MOST 1048576: true; the input reads as it did. -/
def authdBackUptoRow : OpenClaim := { program := "ytijcpdgfbboamaadoor", sum := "4ba5eb943b9e2e729891dd552c59f1195c56069e70e2f2822bc4ad6e6ceb1045", func := "latchkey/latchkeylaw15.AuthdBack", spec := "authdBack", inPlace := ["internal/bytealg.Compare"], recurses := true, named := ["unicode/utf8.first", "unicode/utf8.acceptRanges"], loops := true, apart := false, laid := [("unicode/utf8.acceptRanges", laid_unicode_utf8_acceptRanges), ("unicode/utf8.first", laid_unicode_utf8_first)], narrowed := true }
def AuthdBackUptoSaid : Prop := authdBackUptoRow.holds Tryd.pinned (OpenSpec.upto authdBackSpec)

/-- 'latchkeylaw15.AuthdOne', WHERE WHAT IT READS IS OF BULK AT MOST 1048576: true; the input reads as it did. -/
def authdOneUptoRow : OpenClaim := { program := "ytijcpdgfbboamaadoor", sum := "4ba5eb943b9e2e729891dd552c59f1195c56069e70e2f2822bc4ad6e6ceb1045", func := "latchkey/latchkeylaw15.AuthdOne", spec := "authdOne", inPlace := ["internal/bytealg.Compare"], recurses := true, named := ["unicode/utf8.first", "unicode/utf8.acceptRanges"], apart := false, laid := [("unicode/utf8.acceptRanges", laid_unicode_utf8_acceptRanges), ("unicode/utf8.first", laid_unicode_utf8_first)], narrowed := true }
def AuthdOneUptoSaid : Prop := authdOneUptoRow.holds Tryd.pinned (OpenSpec.upto authdOneSpec)

end Rows
end Go.Proofs.YtijcpdgfbboamaaDoor
