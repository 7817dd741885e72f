/-
  No cell of these rows narrows 'for every input' (looked for: loops, veiled, ifaces, maps, wideKeys, modest, calm, conditions, laid).
  DERIVED. THE GIVEN ROWS OF THIS SEAT. 11 by the template 'for every input the law returns true; each argument reads behind the call as it read before'; 0 by the template 'total and deterministic' (their statements: YtedjcbdhafmjiaaTotals.lean).
  GIVEN WITH THE SEED: the statements are not yours to turn. If you find one false, say at which input.
  Laid BY PROGRAM, IN A SANDBOX (cutbox-rows.mjs): the forced cells as the released guide's own fill.sh prints them over the translation d75b956118e298cb… (all of the seat's roots in one cut). By AI agents, Wed Nov 11 2026. No macro, syntax, notation, axiom, sorry.
-/
import Derived.Test.YtedjcbdhafmjiaaChecked
import GoSem.Claim
import GoSem.ClaimJoined
import GoSem.ClaimMapViews
import Derived.JoinedTies
import Derived.KernelRfl
namespace Go.Proofs.Ytedjcbdhafmjiaa
/- THE CELL 'sum', in the pinned program and in every row, IS THE sha256 OF THE DUMP (.gsa) THAT YtedjcbdhafmjiaaProg.lean LOADS. Nothing in Lean hashes anything: it is a label: what it is worth is what the hold of that sum in a sandbox is worth. -/
noncomputable def Try.pinned : Pinned := { name := "ytedjcbdhafmjiaa", sum := "d75b956118e298cb545db86fac0196d4ae3a146758794d480ae98ecee8464c6b", checked := Try.checked }
namespace Rows
def none {H : Type} : Left H := { results := [], args := [] }

/-- 'latchkeylaw19.LoginRises': WHATEVER THE INPUT: true; the input reads as it did. -/
def loginRisesSpec : ChangeSpec := { name := "loginRises", fn := fun _ => fun
  | [d1, d2] => { results := [.lit (.bool true)], args := [d1, d2] }
  | _ => none }
def loginRisesRow : OpenClaim := { program := "ytedjcbdhafmjiaa", sum := "d75b956118e298cb545db86fac0196d4ae3a146758794d480ae98ecee8464c6b", func := "latchkey/latchkeylaw19.LoginRises", spec := "loginRises", apart := false }
def LoginRisesSaid : Prop := loginRisesRow.holds Try.pinned (OpenSpec.ofChange loginRisesSpec)

/-- ITS FALSE NEIGHBOUR: 'it returns false'. Refute it at one input. -/
def loginRisesWrong : ChangeSpec := { name := "loginRises", fn := fun _ => fun
  | [d1, d2] => { results := [.lit (.bool false)], args := [d1, d2] }
  | _ => none }
def LoginRisesWrongFalsely : Prop := loginRisesRow.holds Try.pinned (OpenSpec.ofChange loginRisesWrong)

/-- 'latchkeylaw10.DerInts': WHATEVER THE INPUT: true; the input reads as it did. -/
def derIntsSpec : ChangeSpec := { name := "derInts", fn := fun _ => fun
  | [d1, d2, d3] => { results := [.lit (.bool true)], args := [d1, d2, d3] }
  | _ => none }
def derIntsRow : OpenClaim := { program := "ytedjcbdhafmjiaa", sum := "d75b956118e298cb545db86fac0196d4ae3a146758794d480ae98ecee8464c6b", func := "latchkey/latchkeylaw10.DerInts", spec := "derInts", apart := false }
def DerIntsSaid : Prop := derIntsRow.holds Try.pinned (OpenSpec.ofChange derIntsSpec)

/-- ITS FALSE NEIGHBOUR: 'it returns false'. Refute it at one input. -/
def derIntsWrong : ChangeSpec := { name := "derInts", fn := fun _ => fun
  | [d1, d2, d3] => { results := [.lit (.bool false)], args := [d1, d2, d3] }
  | _ => none }
def DerIntsWrongFalsely : Prop := derIntsRow.holds Try.pinned (OpenSpec.ofChange derIntsWrong)

/-- 'latchkeylaw10.DerOids': WHATEVER THE INPUT: true; the input reads as it did. -/
def derOidsSpec : ChangeSpec := { name := "derOids", fn := fun _ => fun
  | [d1, d2] => { results := [.lit (.bool true)], args := [d1, d2] }
  | _ => none }
def derOidsRow : OpenClaim := { program := "ytedjcbdhafmjiaa", sum := "d75b956118e298cb545db86fac0196d4ae3a146758794d480ae98ecee8464c6b", func := "latchkey/latchkeylaw10.DerOids", spec := "derOids", apart := false }
def DerOidsSaid : Prop := derOidsRow.holds Try.pinned (OpenSpec.ofChange derOidsSpec)

/-- ITS FALSE NEIGHBOUR: 'it returns false'. Refute it at one input. -/
def derOidsWrong : ChangeSpec := { name := "derOids", fn := fun _ => fun
  | [d1, d2] => { results := [.lit (.bool false)], args := [d1, d2] }
  | _ => none }
def DerOidsWrongFalsely : Prop := derOidsRow.holds Try.pinned (OpenSpec.ofChange derOidsWrong)

/-- 'latchkeylaw10.DerTimes': WHATEVER THE INPUT: true; the input reads as it did. -/
def derTimesSpec : ChangeSpec := { name := "derTimes", fn := fun _ => fun
  | [d1, d2, d3] => { results := [.lit (.bool true)], args := [d1, d2, d3] }
  | _ => none }
def derTimesRow : OpenClaim := { program := "ytedjcbdhafmjiaa", sum := "d75b956118e298cb545db86fac0196d4ae3a146758794d480ae98ecee8464c6b", func := "latchkey/latchkeylaw10.DerTimes", spec := "derTimes", apart := false }
def DerTimesSaid : Prop := derTimesRow.holds Try.pinned (OpenSpec.ofChange derTimesSpec)

/-- ITS FALSE NEIGHBOUR: 'it returns false'. Refute it at one input. -/
def derTimesWrong : ChangeSpec := { name := "derTimes", fn := fun _ => fun
  | [d1, d2, d3] => { results := [.lit (.bool false)], args := [d1, d2, d3] }
  | _ => none }
def DerTimesWrongFalsely : Prop := derTimesRow.holds Try.pinned (OpenSpec.ofChange derTimesWrong)

/-- 'latchkeylaw10.DerDays': WHATEVER THE INPUT: true; the input reads as it did. -/
def derDaysSpec : ChangeSpec := { name := "derDays", fn := fun _ => fun
  | [d1, d2] => { results := [.lit (.bool true)], args := [d1, d2] }
  | _ => none }
def derDaysRow : OpenClaim := { program := "ytedjcbdhafmjiaa", sum := "d75b956118e298cb545db86fac0196d4ae3a146758794d480ae98ecee8464c6b", func := "latchkey/latchkeylaw10.DerDays", spec := "derDays", unfollowed := true, recurses := true, apart := false }
def DerDaysSaid : Prop := derDaysRow.holds Try.pinned (OpenSpec.ofChange derDaysSpec)

/-- ITS FALSE NEIGHBOUR: 'it returns false'. Refute it at one input. -/
def derDaysWrong : ChangeSpec := { name := "derDays", fn := fun _ => fun
  | [d1, d2] => { results := [.lit (.bool false)], args := [d1, d2] }
  | _ => none }
def DerDaysWrongFalsely : Prop := derDaysRow.holds Try.pinned (OpenSpec.ofChange derDaysWrong)

/-- 'latchkeylaw10.DerAll': WHATEVER THE INPUT: true; the input reads as it did. -/
def derAllSpec : ChangeSpec := { name := "derAll", fn := fun _ => fun
  | [d1, d2] => { results := [.lit (.bool true)], args := [d1, d2] }
  | _ => none }
def derAllRow : OpenClaim := { program := "ytedjcbdhafmjiaa", sum := "d75b956118e298cb545db86fac0196d4ae3a146758794d480ae98ecee8464c6b", func := "latchkey/latchkeylaw10.DerAll", spec := "derAll", unfollowed := true, recurses := true, apart := false }
def DerAllSaid : Prop := derAllRow.holds Try.pinned (OpenSpec.ofChange derAllSpec)

/-- ITS FALSE NEIGHBOUR: 'it returns false'. Refute it at one input. -/
def derAllWrong : ChangeSpec := { name := "derAll", fn := fun _ => fun
  | [d1, d2] => { results := [.lit (.bool false)], args := [d1, d2] }
  | _ => none }
def DerAllWrongFalsely : Prop := derAllRow.holds Try.pinned (OpenSpec.ofChange derAllWrong)

/-- 'latchkeylaw10.DerBits': WHATEVER THE INPUT: true; the input reads as it did. -/
def derBitsSpec : ChangeSpec := { name := "derBits", fn := fun _ => fun
  | [d1, d2] => { results := [.lit (.bool true)], args := [d1, d2] }
  | _ => none }
def derBitsRow : OpenClaim := { program := "ytedjcbdhafmjiaa", sum := "d75b956118e298cb545db86fac0196d4ae3a146758794d480ae98ecee8464c6b", func := "latchkey/latchkeylaw10.DerBits", spec := "derBits", apart := false }
def DerBitsSaid : Prop := derBitsRow.holds Try.pinned (OpenSpec.ofChange derBitsSpec)

/-- ITS FALSE NEIGHBOUR: 'it returns false'. Refute it at one input. -/
def derBitsWrong : ChangeSpec := { name := "derBits", fn := fun _ => fun
  | [d1, d2] => { results := [.lit (.bool false)], args := [d1, d2] }
  | _ => none }
def DerBitsWrongFalsely : Prop := derBitsRow.holds Try.pinned (OpenSpec.ofChange derBitsWrong)

/-- 'latchkeylaw10.DerWrites': WHATEVER THE INPUT: true; the input reads as it did. -/
def derWritesSpec : ChangeSpec := { name := "derWrites", fn := fun _ => fun
  | [d1, d2, d3] => { results := [.lit (.bool true)], args := [d1, d2, d3] }
  | _ => none }
def derWritesRow : OpenClaim := { program := "ytedjcbdhafmjiaa", sum := "d75b956118e298cb545db86fac0196d4ae3a146758794d480ae98ecee8464c6b", func := "latchkey/latchkeylaw10.DerWrites", spec := "derWrites", apart := false }
def DerWritesSaid : Prop := derWritesRow.holds Try.pinned (OpenSpec.ofChange derWritesSpec)

/-- ITS FALSE NEIGHBOUR: 'it returns false'. Refute it at one input. -/
def derWritesWrong : ChangeSpec := { name := "derWrites", fn := fun _ => fun
  | [d1, d2, d3] => { results := [.lit (.bool false)], args := [d1, d2, d3] }
  | _ => none }
def DerWritesWrongFalsely : Prop := derWritesRow.holds Try.pinned (OpenSpec.ofChange derWritesWrong)

/-- 'latchkeylaw10.DerOne': WHATEVER THE INPUT: true; the input reads as it did. -/
def derOneSpec : ChangeSpec := { name := "derOne", fn := fun _ => fun
  | [d] => { results := [.lit (.bool true)], args := [d] }
  | _ => none }
def derOneRow : OpenClaim := { program := "ytedjcbdhafmjiaa", sum := "d75b956118e298cb545db86fac0196d4ae3a146758794d480ae98ecee8464c6b", func := "latchkey/latchkeylaw10.DerOne", spec := "derOne", apart := false }
def DerOneSaid : Prop := derOneRow.holds Try.pinned (OpenSpec.ofChange derOneSpec)

/-- ITS FALSE NEIGHBOUR: 'it returns false'. Refute it at one input. -/
def derOneWrong : ChangeSpec := { name := "derOne", fn := fun _ => fun
  | [d] => { results := [.lit (.bool false)], args := [d] }
  | _ => none }
def DerOneWrongFalsely : Prop := derOneRow.holds Try.pinned (OpenSpec.ofChange derOneWrong)

/-- 'latchkeylaw10.DerReads': WHATEVER THE INPUT: true; the input reads as it did. -/
def derReadsSpec : ChangeSpec := { name := "derReads", fn := fun _ => fun
  | [d] => { results := [.lit (.bool true)], args := [d] }
  | _ => none }
def derReadsRow : OpenClaim := { program := "ytedjcbdhafmjiaa", sum := "d75b956118e298cb545db86fac0196d4ae3a146758794d480ae98ecee8464c6b", func := "latchkey/latchkeylaw10.DerReads", spec := "derReads", unfollowed := true, recurses := true, apart := false }
def DerReadsSaid : Prop := derReadsRow.holds Try.pinned (OpenSpec.ofChange derReadsSpec)

/-- ITS FALSE NEIGHBOUR: 'it returns false'. Refute it at one input. -/
def derReadsWrong : ChangeSpec := { name := "derReads", fn := fun _ => fun
  | [d] => { results := [.lit (.bool false)], args := [d] }
  | _ => none }
def DerReadsWrongFalsely : Prop := derReadsRow.holds Try.pinned (OpenSpec.ofChange derReadsWrong)

/-- 'latchkeylaw10.DerJoins': WHATEVER THE INPUT: true; the input reads as it did. -/
def derJoinsSpec : ChangeSpec := { name := "derJoins", fn := fun _ => fun
  | [d] => { results := [.lit (.bool true)], args := [d] }
  | _ => none }
def derJoinsRow : OpenClaim := { program := "ytedjcbdhafmjiaa", sum := "d75b956118e298cb545db86fac0196d4ae3a146758794d480ae98ecee8464c6b", func := "latchkey/latchkeylaw10.DerJoins", spec := "derJoins", unfollowed := true, recurses := true, apart := false }
def DerJoinsSaid : Prop := derJoinsRow.holds Try.pinned (OpenSpec.ofChange derJoinsSpec)

/-- ITS FALSE NEIGHBOUR: 'it returns false'. Refute it at one input. -/
def derJoinsWrong : ChangeSpec := { name := "derJoins", fn := fun _ => fun
  | [d] => { results := [.lit (.bool false)], args := [d] }
  | _ => none }
def DerJoinsWrongFalsely : Prop := derJoinsRow.holds Try.pinned (OpenSpec.ofChange derJoinsWrong)

/- THE SECOND FORM. 'bulk': how many values and letters a reading holds, each counted each time it is reached (what is shared counts as often as it is met; a slice's spare places count too). A statement '..UptoSaid' is the law's where the arguments, and the package variables that the reading takes, are together of bulk at most 1048576: NARROWER than '..Said'. Prove '..Said' where nothing that the law and all that it calls make is longer than what came in: it says more and counts as full. Else prove '..UptoSaid'. A law counts once. -/
mutual
def uptoBulk {H : Type} : DataW H → Nat
  | .lit (.string bytes) => bytes.length + 1
  | .lit _ => 1
  | .nil => 1
  | .ptr d => uptoBulk d + 1
  | .slice elems spare => uptoBulkAll elems + uptoBulkAll spare + 1
  | .agg parts => uptoBulkAll parts + 1
  | .iface _ d => uptoBulk d + 1
  | .map entries => uptoBulkEntries entries + 1
  | .held _ => 1
def uptoBulkAll {H : Type} : List (DataW H) → Nat
  | [] => 0
  | d :: r => uptoBulk d + uptoBulkAll r
def uptoBulkEntries {H : Type} : List (Lit × DataW H) → Nat
  | [] => 0
  | x :: r => uptoBulkEntry x + uptoBulkEntries r
def uptoBulkEntry {H : Type} : Lit × DataW H → Nat
  | (.string bytes, d) => bytes.length + uptoBulk d + 1
  | (_, d) => uptoBulk d + 1
 end
def uptoSmall : (H : Type) → List (DataW H) → Bool := fun _ ds => decide (uptoBulkAll ds ≤ 1048576)
def OpenSpec.upto (s : _root_.Go.ChangeSpec) : _root_.Go.OpenSpec := { _root_.Go.OpenSpec.ofChange s with cond := some uptoSmall }

/-- 'latchkeylaw19.LoginRises', WHERE WHAT IT READS IS OF BULK AT MOST 1048576: true; the input reads as it did. -/
def loginRisesUptoRow : OpenClaim := { program := "ytedjcbdhafmjiaa", sum := "d75b956118e298cb545db86fac0196d4ae3a146758794d480ae98ecee8464c6b", func := "latchkey/latchkeylaw19.LoginRises", spec := "loginRises", apart := false, narrowed := true }
def LoginRisesUptoSaid : Prop := loginRisesUptoRow.holds Try.pinned (OpenSpec.upto loginRisesSpec)

/-- 'latchkeylaw10.DerInts', WHERE WHAT IT READS IS OF BULK AT MOST 1048576: true; the input reads as it did. -/
def derIntsUptoRow : OpenClaim := { program := "ytedjcbdhafmjiaa", sum := "d75b956118e298cb545db86fac0196d4ae3a146758794d480ae98ecee8464c6b", func := "latchkey/latchkeylaw10.DerInts", spec := "derInts", apart := false, narrowed := true }
def DerIntsUptoSaid : Prop := derIntsUptoRow.holds Try.pinned (OpenSpec.upto derIntsSpec)

/-- 'latchkeylaw10.DerOids', WHERE WHAT IT READS IS OF BULK AT MOST 1048576: true; the input reads as it did. -/
def derOidsUptoRow : OpenClaim := { program := "ytedjcbdhafmjiaa", sum := "d75b956118e298cb545db86fac0196d4ae3a146758794d480ae98ecee8464c6b", func := "latchkey/latchkeylaw10.DerOids", spec := "derOids", apart := false, narrowed := true }
def DerOidsUptoSaid : Prop := derOidsUptoRow.holds Try.pinned (OpenSpec.upto derOidsSpec)

/-- 'latchkeylaw10.DerTimes', WHERE WHAT IT READS IS OF BULK AT MOST 1048576: true; the input reads as it did. -/
def derTimesUptoRow : OpenClaim := { program := "ytedjcbdhafmjiaa", sum := "d75b956118e298cb545db86fac0196d4ae3a146758794d480ae98ecee8464c6b", func := "latchkey/latchkeylaw10.DerTimes", spec := "derTimes", apart := false, narrowed := true }
def DerTimesUptoSaid : Prop := derTimesUptoRow.holds Try.pinned (OpenSpec.upto derTimesSpec)

/-- 'latchkeylaw10.DerDays', WHERE WHAT IT READS IS OF BULK AT MOST 1048576: true; the input reads as it did. -/
def derDaysUptoRow : OpenClaim := { program := "ytedjcbdhafmjiaa", sum := "d75b956118e298cb545db86fac0196d4ae3a146758794d480ae98ecee8464c6b", func := "latchkey/latchkeylaw10.DerDays", spec := "derDays", unfollowed := true, recurses := true, apart := false, narrowed := true }
def DerDaysUptoSaid : Prop := derDaysUptoRow.holds Try.pinned (OpenSpec.upto derDaysSpec)

/-- 'latchkeylaw10.DerAll', WHERE WHAT IT READS IS OF BULK AT MOST 1048576: true; the input reads as it did. -/
def derAllUptoRow : OpenClaim := { program := "ytedjcbdhafmjiaa", sum := "d75b956118e298cb545db86fac0196d4ae3a146758794d480ae98ecee8464c6b", func := "latchkey/latchkeylaw10.DerAll", spec := "derAll", unfollowed := true, recurses := true, apart := false, narrowed := true }
def DerAllUptoSaid : Prop := derAllUptoRow.holds Try.pinned (OpenSpec.upto derAllSpec)

/-- 'latchkeylaw10.DerBits', WHERE WHAT IT READS IS OF BULK AT MOST 1048576: true; the input reads as it did. -/
def derBitsUptoRow : OpenClaim := { program := "ytedjcbdhafmjiaa", sum := "d75b956118e298cb545db86fac0196d4ae3a146758794d480ae98ecee8464c6b", func := "latchkey/latchkeylaw10.DerBits", spec := "derBits", apart := false, narrowed := true }
def DerBitsUptoSaid : Prop := derBitsUptoRow.holds Try.pinned (OpenSpec.upto derBitsSpec)

/-- 'latchkeylaw10.DerWrites', WHERE WHAT IT READS IS OF BULK AT MOST 1048576: true; the input reads as it did. -/
def derWritesUptoRow : OpenClaim := { program := "ytedjcbdhafmjiaa", sum := "d75b956118e298cb545db86fac0196d4ae3a146758794d480ae98ecee8464c6b", func := "latchkey/latchkeylaw10.DerWrites", spec := "derWrites", apart := false, narrowed := true }
def DerWritesUptoSaid : Prop := derWritesUptoRow.holds Try.pinned (OpenSpec.upto derWritesSpec)

/-- 'latchkeylaw10.DerOne', WHERE WHAT IT READS IS OF BULK AT MOST 1048576: true; the input reads as it did. -/
def derOneUptoRow : OpenClaim := { program := "ytedjcbdhafmjiaa", sum := "d75b956118e298cb545db86fac0196d4ae3a146758794d480ae98ecee8464c6b", func := "latchkey/latchkeylaw10.DerOne", spec := "derOne", apart := false, narrowed := true }
def DerOneUptoSaid : Prop := derOneUptoRow.holds Try.pinned (OpenSpec.upto derOneSpec)

/-- 'latchkeylaw10.DerReads', WHERE WHAT IT READS IS OF BULK AT MOST 1048576: true; the input reads as it did. -/
def derReadsUptoRow : OpenClaim := { program := "ytedjcbdhafmjiaa", sum := "d75b956118e298cb545db86fac0196d4ae3a146758794d480ae98ecee8464c6b", func := "latchkey/latchkeylaw10.DerReads", spec := "derReads", unfollowed := true, recurses := true, apart := false, narrowed := true }
def DerReadsUptoSaid : Prop := derReadsUptoRow.holds Try.pinned (OpenSpec.upto derReadsSpec)

/-- 'latchkeylaw10.DerJoins', WHERE WHAT IT READS IS OF BULK AT MOST 1048576: true; the input reads as it did. -/
def derJoinsUptoRow : OpenClaim := { program := "ytedjcbdhafmjiaa", sum := "d75b956118e298cb545db86fac0196d4ae3a146758794d480ae98ecee8464c6b", func := "latchkey/latchkeylaw10.DerJoins", spec := "derJoins", unfollowed := true, recurses := true, apart := false, narrowed := true }
def DerJoinsUptoSaid : Prop := derJoinsUptoRow.holds Try.pinned (OpenSpec.upto derJoinsSpec)

end Rows
end Go.Proofs.Ytedjcbdhafmjiaa
