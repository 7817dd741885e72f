/- What der.Time answers. -/
import Derived.Test.YtedjcbdhafmjiaaVsCTime
import Derived.Test.YtedjcbdhafmjiaaVsCTime2
open Go Go.VS
namespace Go.Proofs.Ytedjcbdhafmjiaa
set_option linter.unusedVariables false
set_option linter.unusedSimpArgs false
set_option maxRecDepth 20000
set_option maxHeartbeats 4000000
def k29_VsCTime3 : List Nat := [0,1,2,3,4,5,6,7,8,9,10,11,12,14,15,17,36,41,42,43,44,53,56,80,92,116,153]
def a29_21_VsCTime3 : List Nat := [0,1,0,4,12,31,0,64,63,511]
def o29_21_VsCTime3 : List Nat := [0,1,2,3,4,5,6,7,8,9]
def a29_32_VsCTime3 : List Nat := [0,1,0,4,12,31,63,0,128,384,1023,2047,0,4096,12288,32767,65535,131071]
def o29_32_VsCTime3 : List Nat := [0,1,2,3,4,5,6,7,8,9,10,11,12,13,14,15,16,17]
attribute [go_sem] k29_VsCTime3 a29_21_VsCTime3 o29_21_VsCTime3 a29_32_VsCTime3 o29_32_VsCTime3
theorem f29_ok (tag : UInt8) (nb : Bool) (bs : List UInt8) : CallsP Try.prog 29 [.agg [.int .u8 tag.toNat, .sl none nb 1 (bs.map u8)]] (timeA (timeR tag bs)) := by
  by_cases h3 : tag.toNat = 23
  · exact f29_23 tag nb bs h3
  by_cases h4 : tag.toNat = 24
  · exact f29_24 tag nb bs h4
  unfold timeR
  rw [if_neg h3, if_neg h4]
  refine CallsP.intro Try.func29 rfl (by show 1 ≤ 192; decide) ?_
  rintro X hX
  have hn : X.n = 192 := hX
  unfold Try.f29
  dsimp only
  rw [entry1]
  repeat' first
    | with_reducible (first | refine AWP.seqA ?_ | refine AWP.seqB ?_ | refine AWP.block ?_ | refine AWP.skipN ?_ | refine AWP.skip ?_ | refine AWP.exit ?_ | refine AWP.ret ?_ | refine LoopN.succ ?_ | refine thenS_n ?_ | refine thenS_x ?_ | refine thenS_r ?_ | refine blockS_n ?_ | refine blockS_r ?_ | refine blockS_x ?_ | refine blockS_y (by decide) ?_)
    | ((with_reducible refine hK _ ?_); clear hK K) | ((with_reducible refine hKt ?_); clear hKt hKf Kt Kf) | ((with_reducible refine hKf ?_); clear hKt hKf Kt Kf) | ((with_reducible refine condP_split (fun hg => hKt ?_) (fun hg => hKf ?_)) <;> clear hKt hKf Kt Kf <;> (try simp only [hgW] at hg) <;> try (exfalso; omega))
    | ((first | (with_reducible refine guardP_split (fun hg => ?_) (fun hg => ?_)) <;> simp -implicitDefEqProofs only [hg, u8, Int.cast_ofNat_Int, hn, go_sem, simprocAttr] <;> (try simp only [hgW] at hg) | ((first | with_reducible (first | refine AWP.seqRB k29_VsCTime3 fun K hK => ?_ | refine AWP.lastRB k29_VsCTime3 fun K hK => ?_ | refine AWP.seqD (id := 21) k29_VsCTime3 a29_21_VsCTime3 o29_21_VsCTime3 mixed (by kernel_rfl) (by kernel_rfl) fun K hK => ?_ | refine AWP.lastD (id := 21) k29_VsCTime3 a29_21_VsCTime3 o29_21_VsCTime3 mixed (by kernel_rfl) (by kernel_rfl) fun K hK => ?_ | refine AWP.seqD (id := 32) k29_VsCTime3 a29_32_VsCTime3 o29_32_VsCTime3 mixed (by kernel_rfl) (by kernel_rfl) fun K hK => ?_ | refine AWP.lastD (id := 32) k29_VsCTime3 a29_32_VsCTime3 o29_32_VsCTime3 mixed (by kernel_rfl) (by kernel_rfl) fun K hK => ?_ | refine AWP.seqC fun Kt Kf hKt hKf => ?_ | refine AWP.condK fun Kt Kf hKt hKf => ?_ | refine retS_ret ?_ | refine retS_end ?_)); simp -implicitDefEqProofs only [u8, Int.cast_ofNat_Int, hn, go_sem, simprocAttr])) <;> try simp (disch := omega) only [wrW])
    | with_reducible refine And.intro (by first | omega | (simp only [hgW]; omega)) ?_
    | (exfalso; omega)
  all_goals rfl
end Go.Proofs.Ytedjcbdhafmjiaa
