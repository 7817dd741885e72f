/- What latchkeyref10.Read answers. -/
import Derived.Test.YtedjcbdhafmjiaaVsCRead
open Go Go.VS
namespace Go.Proofs.Ytedjcbdhafmjiaa
set_option linter.unusedVariables false
set_option linter.unusedSimpArgs false
set_option maxRecDepth 20000
set_option maxHeartbeats 4000000
def k27_VsCRef : List Nat := [0,2,3,4,5,6,7,8,9,12,23,31,37,46,56,69,77]
def a27_16_VsCRef : List Nat := [0,1,3,7,15,0,32,96,224,511,1023,2047]
def o27_16_VsCRef : List Nat := [0,1,2,3,4,5,6,7,8,9,10,11]
def p27_21_VsCRef : List Nat := [2]
def a27_21_VsCRef : List Nat := [0,1,3,0,0,0,0,96,248,511,0,0,0,6144,15360,1023,65535,131071]
def o27_21_VsCRef : List (List Nat) := [[0,1,2,3,4,5,6,7,8,9,15,10,11,12,13,14,16,17]]
attribute [go_sem] k27_VsCRef a27_16_VsCRef o27_16_VsCRef p27_21_VsCRef a27_21_VsCRef o27_21_VsCRef
def refA (bs : List UInt8) : AV :=
  match readSpec bs with
  | .inl e => .tup [.agg [.int .u8 0, .sl none true 1 []], .sl none true 1 [], .int .i64 e]
  | .inr (h, n) => .tup [.agg [.int .u8 ((bs.getD 0 default).toNat : Int), .sl none false 1 (((bs.drop h).take n).map u8)], .sl none false 1 ((bs.drop (h + n)).map u8), .int .i64 0]
theorem f27_ok (nb : Bool) (bs : List UInt8) (hnb : nb = true → bs = []) : CallsP Try.prog 27 [.sl none nb 1 (bs.map u8)] (refA bs) := by
  by_cases h0 : nb = true
  · rw [hnb h0]
    have e : refA [] = .tup [.agg [.int .u8 0, .sl none true 1 []], .sl none true 1 [], .int .i64 30] := rfl
    rw [e]
    refine CallsP.intro Try.func27 rfl (by show 1 ≤ 95; decide) ?_
    rintro X hX
    have hn : X.n = 95 := hX
    unfold Try.f27
    dsimp only
    rw [entry1]
    repeat' first
      | with_reducible (first | refine AWP.seqA ?_ | refine AWP.seqB ?_ | refine AWP.block ?_ | refine AWP.skipN ?_ | refine AWP.skip ?_ | refine AWP.exit ?_ | refine AWP.ret ?_ | refine AWP.loopT 3 ?_ | refine AWP.unroll 3 ?_ | refine LoopN.succ ?_ | refine thenS_n ?_ | refine thenS_x ?_ | refine thenS_r ?_ | refine blockS_n ?_ | refine blockS_r ?_ | refine blockS_x ?_ | refine blockS_y (by decide) ?_)
      | ((with_reducible refine hK _ ?_); clear hK K) | ((with_reducible refine hKt ?_); clear hKt hKf Kt Kf) | ((with_reducible refine hKf ?_); clear hKt hKf Kt Kf) | ((with_reducible refine condP_split (fun hg => hKt ?_) (fun hg => hKf ?_)) <;> clear hKt hKf Kt Kf <;> (try simp only [hgW] at hg) <;> try (exfalso; omega))
      | ((first | (with_reducible refine guardP_split (fun hg => ?_) (fun hg => ?_)) <;> simp -implicitDefEqProofs only [hg, u8, Int.cast_ofNat_Int, hn, go_sem, simprocAttr] <;> (try simp only [hgW] at hg) | ((first | with_reducible (first | refine AWP.seqRB k27_VsCRef fun K hK => ?_ | refine AWP.lastRB k27_VsCRef fun K hK => ?_ | refine AWP.seqD (id := 16) k27_VsCRef a27_16_VsCRef o27_16_VsCRef mixed (by kernel_rfl) (by kernel_rfl) fun K hK => ?_ | refine AWP.lastD (id := 16) k27_VsCRef a27_16_VsCRef o27_16_VsCRef mixed (by kernel_rfl) (by kernel_rfl) fun K hK => ?_ | refine AWP.seqM (id := 21) k27_VsCRef p27_21_VsCRef a27_21_VsCRef o27_21_VsCRef mixed (by kernel_rfl) (by kernel_rfl) (by with_unfolding_all rfl) fun K hK => ?_ | refine AWP.lastM (id := 21) k27_VsCRef p27_21_VsCRef a27_21_VsCRef o27_21_VsCRef mixed (by kernel_rfl) (by kernel_rfl) (by with_unfolding_all rfl) fun K hK => ?_ | refine AWP.seqC fun Kt Kf hKt hKf => ?_ | refine AWP.condK fun Kt Kf hKt hKf => ?_ | refine retS_ret ?_ | refine retS_end ?_)); simp -implicitDefEqProofs only [u8, Int.cast_ofNat_Int, hn, go_sem, simprocAttr])) <;> try simp (disch := omega) only [wrW])
      | with_reducible refine And.intro (by first | omega | (simp only [hgW]; omega)) ?_
      | (exfalso; omega)
  have h0 : nb = false := by simpa using h0
  subst h0
  refine CallsP.intro Try.func27 rfl (by show 1 ≤ 95; decide) ?_
  rintro X hX
  have hn : X.n = 95 := hX
  unfold Try.f27
  dsimp only
  rw [entry1]
  have b1 := (bs.getD 1 default).toNat_lt
  have b2 := (bs.getD 2 default).toNat_lt
  have b3 := (bs.getD 3 default).toNat_lt
  repeat' first
    | with_reducible (first | refine AWP.seqA ?_ | refine AWP.seqB ?_ | refine AWP.block ?_ | refine AWP.skipN ?_ | refine AWP.skip ?_ | refine AWP.exit ?_ | refine AWP.ret ?_ | refine AWP.loopT 3 ?_ | refine AWP.unroll 3 ?_ | refine LoopN.succ ?_ | refine thenS_n ?_ | refine thenS_x ?_ | refine thenS_r ?_ | refine blockS_n ?_ | refine blockS_r ?_ | refine blockS_x ?_ | refine blockS_y (by decide) ?_)
    | ((with_reducible refine hK _ ?_); clear hK K) | ((with_reducible refine hKt ?_); clear hKt hKf Kt Kf) | ((with_reducible refine hKf ?_); clear hKt hKf Kt Kf) | ((with_reducible refine condP_split (fun hg => hKt ?_) (fun hg => hKf ?_)) <;> clear hKt hKf Kt Kf <;> (try simp only [hgW] at hg) <;> try (exfalso; omega))
    | ((first | (with_reducible refine guardP_split (fun hg => ?_) (fun hg => ?_)) <;> simp -implicitDefEqProofs only [hg, u8, Int.cast_ofNat_Int, hn, go_sem, simprocAttr] <;> (try simp only [hgW] at hg) | ((first | with_reducible (first | refine AWP.seqRB k27_VsCRef fun K hK => ?_ | refine AWP.lastRB k27_VsCRef fun K hK => ?_ | refine AWP.seqD (id := 16) k27_VsCRef a27_16_VsCRef o27_16_VsCRef mixed (by kernel_rfl) (by kernel_rfl) fun K hK => ?_ | refine AWP.lastD (id := 16) k27_VsCRef a27_16_VsCRef o27_16_VsCRef mixed (by kernel_rfl) (by kernel_rfl) fun K hK => ?_ | refine AWP.seqM (id := 21) k27_VsCRef p27_21_VsCRef a27_21_VsCRef o27_21_VsCRef mixed (by kernel_rfl) (by kernel_rfl) (by with_unfolding_all rfl) fun K hK => ?_ | refine AWP.lastM (id := 21) k27_VsCRef p27_21_VsCRef a27_21_VsCRef o27_21_VsCRef mixed (by kernel_rfl) (by kernel_rfl) (by with_unfolding_all rfl) fun K hK => ?_ | refine AWP.seqC fun Kt Kf hKt hKf => ?_ | refine AWP.condK fun Kt Kf hKt hKf => ?_ | refine retS_ret ?_ | refine retS_end ?_)); simp -implicitDefEqProofs only [u8, Int.cast_ofNat_Int, hn, go_sem, simprocAttr])) <;> try simp (disch := omega) only [wrW])
    | with_reducible refine And.intro (by first | omega | (simp only [hgW]; omega)) ?_
    | (exfalso; omega)
  all_goals clear hX hn X
  all_goals simp only [refA, readSpec]
  all_goals repeat (first | rw [if_pos (by omega)] | rw [if_neg (by omega)])
  all_goals first
    | done
    | rfl
    | (have e1 : (2 + (((bs.getD 1 default).toNat : Int) - 128)).toNat = 4 := by omega
       have e2 : (2 + (((bs.getD 1 default).toNat : Int) - 128) + (256 * ((bs.getD 2 default).toNat : Int) + ((bs.getD 3 default).toNat : Int))).toNat = 4 + ((bs.getD 2 default).toNat * 256 + (bs.getD 3 default).toNat) := by omega
       rw [e1, e2, Nat.add_sub_cancel_left]; done)
    | (have e1 : (2 + (((bs.getD 1 default).toNat : Int) - 128)).toNat = 3 := by omega
       have e2 : (2 + (((bs.getD 1 default).toNat : Int) - 128) + ((bs.getD 2 default).toNat : Int)).toNat = 3 + (bs.getD 2 default).toNat := by omega
       rw [e1, e2, Nat.add_sub_cancel_left]; done)
    | (have e2 : (2 + ((bs.getD 1 default).toNat : Int)).toNat = 2 + (bs.getD 1 default).toNat := by omega
       rw [e2, Nat.add_sub_cancel_left]; done)
    | (by_cases hz : (bs.getD 2 default).toNat = 0
       · rw [if_pos hz]
       · rw [if_neg hz, if_pos (by omega), if_pos (by omega)])
    | trace_state
end Go.Proofs.Ytedjcbdhafmjiaa
