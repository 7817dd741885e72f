/- What der.Write answers: for any piece of at most 100000 bytes, its bytes, or why there are none. -/
import Derived.Test.YtedjcbdhafmjiaaVsTy
open Go Go.VS
namespace Go.Proofs.Ytedjcbdhafmjiaa
set_option linter.unusedVariables false
set_option linter.unusedSimpArgs false
set_option maxRecDepth 20000
set_option maxHeartbeats 4000000
/-- A piece's head. -/
def headOf (tag : UInt8) (n : Nat) : List UInt8 :=
  if n < 128 then [tag, UInt8.ofNat n] else if n < 256 then [tag, 129, UInt8.ofNat n] else [tag, 130, UInt8.ofNat (n / 256), UInt8.ofNat n]
def writeA (tag : UInt8) (bs : List UInt8) : AV :=
  if tag.toNat % 32 = 31 then .tup [.sl none true 1 [], .int .i64 30]
  else if 4096 < bs.length + (headOf tag bs.length).length then .tup [.sl none true 1 [], .int .i64 3]
  else .tup [.sl (some ((3,0),0)) false 1 ((headOf tag bs.length ++ bs).map u8), .int .i64 0]
theorem wrapU8 (n : Nat) : AV.int .u8 (IntKind.wrap .u8 (n : Int)) = u8 (UInt8.ofNat n) := by
  unfold u8
  congr 1
def k38_VsCWrite : List Nat := [0,1,2,3,4,5,12,24,32,44]
attribute [go_sem] k38_VsCWrite
theorem f38_ok (tag : UInt8) (nb : Bool) (bs : List UInt8) (hl : bs.length ≤ 100000) : CallsP Try.prog 38 [.agg [.int .u8 tag.toNat, .sl none nb 1 (bs.map u8)]] (writeA tag bs) := by
  refine CallsP.intro Try.func38 rfl (by show 1 ≤ 49; decide) ?_
  rintro X hX
  have hn : X.n = 49 := hX
  unfold Try.f38
  dsimp only
  rw [entry1]
  repeat' first
    | with_reducible (first | refine AWP.seqA ?_ | refine AWP.seqB ?_ | refine AWP.block ?_ | refine AWP.skipN ?_ | refine AWP.skip ?_ | refine AWP.exit ?_ | refine AWP.ret ?_ | refine AWP.loopT 3 ?_ | refine AWP.unroll 3 ?_ | refine LoopN.succ ?_ | refine thenS_n ?_ | refine thenS_x ?_ | refine thenS_r ?_ | refine blockS_n ?_ | refine blockS_r ?_ | refine blockS_x ?_ | refine blockS_y (by decide) ?_)
    | ((with_reducible refine hK _ ?_); clear hK K) | ((with_reducible refine hKt ?_); clear hKt hKf Kt Kf) | ((with_reducible refine hKf ?_); clear hKt hKf Kt Kf) | ((with_reducible refine condP_split (fun hg => hKt ?_) (fun hg => hKf ?_)) <;> clear hKt hKf Kt Kf <;> (try simp only [hgW] at hg) <;> try (exfalso; omega))
    | ((first | (with_reducible refine guardP_split (fun hg => ?_) (fun hg => ?_)) <;> simp -implicitDefEqProofs only [hg, Int.cast_ofNat_Int, hn, go_sem, simprocAttr] <;> (try simp only [hgW] at hg) | ((first | with_reducible (first | refine AWP.seqRB k38_VsCWrite fun K hK => ?_ | refine AWP.lastRB k38_VsCWrite fun K hK => ?_ | refine AWP.seqC fun Kt Kf hKt hKf => ?_ | refine AWP.condK fun Kt Kf hKt hKf => ?_ | refine retS_ret ?_ | refine retS_end ?_)); simp -implicitDefEqProofs only [Int.cast_ofNat_Int, hn, go_sem, simprocAttr])) <;> try simp (disch := omega) only [wrW])
    | with_reducible refine And.intro (by first | omega | (simp only [hgW]; omega)) ?_
    | (exfalso; omega)
  all_goals clear hX hn X
  all_goals first
    | (unfold writeA; rw [if_pos (by omega)]; done)
    | (have hh : headOf tag bs.length = [tag, UInt8.ofNat bs.length] := by unfold headOf; rw [if_pos (by omega)]
       unfold writeA; rw [hh]; simp only [List.length_cons, List.length_nil, Nat.zero_add, Nat.reduceAdd]
       rw [if_neg (by omega)]
       first
         | (rw [if_pos (by omega)]; done)
         | (rw [if_neg (by omega)]
            have e1 : (UInt8.ofNat bs.length).toNat = bs.length := by rw [UInt8.toNat_ofNat']; omega
            simp only [List.map_append, List.map_cons, List.map_nil, List.cons_append, List.nil_append, u8, e1]; done))
    | (have hh : headOf tag bs.length = [tag, 129, UInt8.ofNat bs.length] := by unfold headOf; rw [if_neg (by omega), if_pos (by omega)]
       unfold writeA; rw [hh]; simp only [List.length_cons, List.length_nil, Nat.zero_add, Nat.reduceAdd]
       rw [if_neg (by omega)]
       first
         | (rw [if_pos (by omega)]; done)
         | (rw [if_neg (by omega)]
            have e1 : (UInt8.ofNat bs.length).toNat = bs.length := by rw [UInt8.toNat_ofNat']; omega
            have e2 : (129 : UInt8).toNat = 129 := rfl
            simp only [List.map_append, List.map_cons, List.map_nil, List.cons_append, List.nil_append, u8, e1, e2, Int.cast_ofNat_Int]; done))
    | (have hh : headOf tag bs.length = [tag, 130, UInt8.ofNat (bs.length / 256), UInt8.ofNat bs.length] := by unfold headOf; rw [if_neg (by omega), if_neg (by omega)]
       unfold writeA; rw [hh]; simp only [List.length_cons, List.length_nil, Nat.zero_add, Nat.reduceAdd]
       rw [if_neg (by omega)]
       first
         | (rw [if_pos (by omega)]; done)
         | (rw [if_neg (by omega)]
            have e1 : (UInt8.ofNat (bs.length / 256)).toNat = bs.length / 256 := by rw [UInt8.toNat_ofNat']; omega
            have e2 : (130 : UInt8).toNat = 130 := rfl
            have e3 := wrapU8 bs.length
            simp only [u8] at e3
            simp only [List.map_append, List.map_cons, List.map_nil, List.cons_append, List.nil_append, u8, e1, e2, e3, Int.cast_ofNat_Int, Int.natCast_ediv]; done))
end Go.Proofs.Ytedjcbdhafmjiaa
