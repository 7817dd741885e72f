/- What der.Int and der.Oid answer at the fixed pieces that the law Awake names. -/
import Derived.Test.YtedjcbdhafmjiaaVsTy
open Go Go.VS
namespace Go.Proofs.Ytedjcbdhafmjiaa
set_option linter.unusedVariables false
set_option linter.unusedSimpArgs false
set_option maxRecDepth 20000
set_option maxHeartbeats 4000000
theorem minlit : min 56 64 = 56 ∧ min 7 64 = 7 ∧ min 8 64 = 8 := by decide
theorem bitslit : IntKind.u64.bits = 64 ∧ IntKind.i64.bits = 64 := ⟨rfl, rfl⟩
def k20_VsCFix2 : List Nat := [0,1,2,3,4,37,41]
attribute [go_sem] k20_VsCFix2
theorem f20_c : CallsP Try.prog 20 [.agg [.int .u8 2, .sl none false 1 [.int .u8 0, .int .u8 5]]] (.tup [.sl none true 1 [], .int .i64 30]) := by
  refine CallsP.intro Try.func20 rfl (by show 1 ≤ 48; decide) ?_
  rintro X hX
  have hn : X.n = 48 := hX
  unfold Try.f20
  dsimp only
  rw [entry1]
  repeat' first
    | with_reducible (first | refine AWP.seqA ?_ | refine AWP.seqB ?_ | refine AWP.block ?_ | refine AWP.skipN ?_ | refine AWP.skip ?_ | refine AWP.exit ?_ | refine AWP.ret ?_ | refine AWP.loopT 3 ?_ | refine AWP.unroll 3 ?_ | refine LoopN.succ ?_ | refine thenS_n ?_ | refine thenS_x ?_ | refine thenS_r ?_ | refine blockS_n ?_ | refine blockS_r ?_ | refine blockS_x ?_ | refine blockS_y (by decide) ?_)
    | ((with_reducible refine hK _ ?_); clear hK K) | ((with_reducible refine hKt ?_); clear hKt hKf Kt Kf) | ((with_reducible refine hKf ?_); clear hKt hKf Kt Kf) | ((with_reducible refine condP_split (fun hg => hKt ?_) (fun hg => hKf ?_)) <;> clear hKt hKf Kt Kf <;> (try simp only [hgW] at hg) <;> try (exfalso; omega))
    | ((first | (with_reducible refine guardP_split (fun hg => ?_) (fun hg => ?_)) <;> simp -implicitDefEqProofs only [hg, hn, go_sem, simprocAttr] <;> (try simp only [hgW] at hg) | ((first | with_reducible (first | refine AWP.seqRB k20_VsCFix2 fun K hK => ?_ | refine AWP.lastRB k20_VsCFix2 fun K hK => ?_ | refine AWP.seqC fun Kt Kf hKt hKf => ?_ | refine AWP.condK fun Kt Kf hKt hKf => ?_ | refine retS_ret ?_ | refine retS_end ?_)); simp -implicitDefEqProofs only [hn, go_sem, simprocAttr])) <;> try simp (disch := omega) only [wrW])
    | with_reducible refine And.intro (by first | omega | (simp only [hgW]; omega)) ?_
    | (exfalso; omega)
theorem oidbits : bitop .and .u8 42 127 = 42 ∧ bitop .and .u8 134 127 = 6 ∧ bitop .and .u8 72 127 = 72 ∧ bitop .or .u64 0 42 = 42 ∧ bitop .or .u64 0 6 = 6 ∧ bitop .or .u64 768 72 = 840 := by decide
def k24_VsCFix2 : List Nat := [0,1,2,3,4,5,6,8,9,29,31,32,33,34,46,54,56,75]
attribute [go_sem] k24_VsCFix2
theorem f24_c : CallsP Try.prog 24 [.agg [.int .u8 6, .sl none false 1 [.int .u8 42, .int .u8 134, .int .u8 72]]] (.tup [.sl (some ((3,0),0)) false 1 [.int .u64 1, .int .u64 2, .int .u64 840], .int .i64 0]) := by
  refine CallsP.intro Try.func24 rfl (by show 1 ≤ 77; decide) ?_
  rintro X hX
  have hn : X.n = 77 := hX
  unfold Try.f24
  dsimp only
  rw [entry1]
  repeat' first
    | with_reducible (first | refine AWP.seqA ?_ | refine AWP.seqB ?_ | refine AWP.block ?_ | refine AWP.skipN ?_ | refine AWP.skip ?_ | refine AWP.exit ?_ | refine AWP.ret ?_ | refine AWP.loopT 4 ?_ | refine AWP.unroll 4 ?_ | refine LoopN.succ ?_ | refine thenS_n ?_ | refine thenS_x ?_ | refine thenS_r ?_ | refine blockS_n ?_ | refine blockS_r ?_ | refine blockS_x ?_ | refine blockS_y (by decide) ?_)
    | ((with_reducible refine hK _ ?_); clear hK K) | ((with_reducible refine hKt ?_); clear hKt hKf Kt Kf) | ((with_reducible refine hKf ?_); clear hKt hKf Kt Kf) | ((with_reducible refine condP_split (fun hg => hKt ?_) (fun hg => hKf ?_)) <;> clear hKt hKf Kt Kf <;> (try simp only [hgW] at hg) <;> try (exfalso; omega))
    | ((first | (with_reducible refine guardP_split (fun hg => ?_) (fun hg => ?_)) <;> simp -implicitDefEqProofs only [hg, Int.cast_ofNat_Int, Go.IntWalk.i64_in, Go.IntWalk.u8_in, Go.IntWalk.u64_in, oidbits, minlit, bitslit, Int.reduceFDiv, Int.reduceTDiv, Int.reduceTMod, Int.reducePow, hn, go_sem, simprocAttr] <;> (try simp only [hgW] at hg) | ((first | with_reducible (first | refine AWP.seqRB k24_VsCFix2 fun K hK => ?_ | refine AWP.lastRB k24_VsCFix2 fun K hK => ?_ | refine AWP.seqC fun Kt Kf hKt hKf => ?_ | refine AWP.condK fun Kt Kf hKt hKf => ?_ | refine retS_ret ?_ | refine retS_end ?_)); simp -implicitDefEqProofs only [Int.cast_ofNat_Int, Go.IntWalk.i64_in, Go.IntWalk.u8_in, Go.IntWalk.u64_in, oidbits, minlit, bitslit, Int.reduceFDiv, Int.reduceTDiv, Int.reduceTMod, Int.reducePow, hn, go_sem, simprocAttr])) <;> try simp (disch := omega) only [wrW])
    | with_reducible refine And.intro (by first | omega | (simp only [hgW]; omega)) ?_
    | (exfalso; omega)
end Go.Proofs.Ytedjcbdhafmjiaa
