/- What latchkeyref10.Write and latchkeyref10.Same answer. -/
import Derived.Test.YtedjcbdhafmjiaaVsCWrite
import Derived.Test.YtedjcbdhafmjiaaVsCRead
open Go Go.VS
namespace Go.Proofs.Ytedjcbdhafmjiaa
set_option linter.unusedVariables false
set_option linter.unusedSimpArgs false
set_option maxRecDepth 20000
set_option maxHeartbeats 4000000
theorem ofNat_toNat_lt {n : Nat} (h : n < 256) : (UInt8.ofNat n).toNat = n := by rw [UInt8.toNat_ofNat']; omega
def k39_VsCMore : List Nat := [0,1,4,5,6,20,28]
attribute [go_sem] k39_VsCMore
theorem f39_ok (tag : UInt8) (nb : Bool) (bs : List UInt8) (hl : bs.length ≤ 65535) : CallsP Try.prog 39 [.int .u8 tag.toNat, .sl none nb 1 (bs.map u8)] (.sl (some ((3,0),0)) false 1 ((headOf tag bs.length ++ bs).map u8)) := by
  refine CallsP.intro Try.func39 rfl (by show 2 ≤ 39; decide) ?_
  rintro X hX
  have hn : X.n = 39 := hX
  unfold Try.f39
  dsimp only
  rw [entry2]
  repeat' first
    | with_reducible (first | refine AWP.seqA ?_ | refine AWP.seqB ?_ | refine AWP.block ?_ | refine AWP.skipN ?_ | refine AWP.skip ?_ | refine AWP.exit ?_ | refine AWP.ret ?_ | refine AWP.loopT 3 ?_ | refine AWP.unroll 3 ?_ | refine LoopN.succ ?_ | refine thenS_n ?_ | refine thenS_x ?_ | refine thenS_r ?_ | refine blockS_n ?_ | refine blockS_r ?_ | refine blockS_x ?_ | refine blockS_y (by decide) ?_)
    | ((with_reducible refine hK _ ?_); clear hK K) | ((with_reducible refine hKt ?_); clear hKt hKf Kt Kf) | ((with_reducible refine hKf ?_); clear hKt hKf Kt Kf) | ((with_reducible refine condP_split (fun hg => hKt ?_) (fun hg => hKf ?_)) <;> clear hKt hKf Kt Kf <;> (try simp only [hgW] at hg) <;> try (exfalso; omega))
    | ((first | (with_reducible refine guardP_split (fun hg => ?_) (fun hg => ?_)) <;> simp -implicitDefEqProofs only [hg, Int.cast_ofNat_Int, hn, go_sem, simprocAttr] <;> (try simp only [hgW] at hg) | ((first | with_reducible (first | refine AWP.seqRB k39_VsCMore fun K hK => ?_ | refine AWP.lastRB k39_VsCMore fun K hK => ?_ | refine AWP.seqC fun Kt Kf hKt hKf => ?_ | refine AWP.condK fun Kt Kf hKt hKf => ?_ | refine retS_ret ?_ | refine retS_end ?_)); simp -implicitDefEqProofs only [Int.cast_ofNat_Int, hn, go_sem, simprocAttr])) <;> try simp (disch := omega) only [wrW])
    | with_reducible refine And.intro (by first | omega | (simp only [hgW]; omega)) ?_
    | (exfalso; omega)
  all_goals clear hX hn X
  all_goals first
    | (have hh : headOf tag bs.length = [tag, UInt8.ofNat bs.length] := by unfold headOf; rw [if_pos (by omega)]
       have e1 : (UInt8.ofNat bs.length).toNat = bs.length := ofNat_toNat_lt (by omega)
       rw [hh]
       simp only [List.map_append, List.map_cons, List.map_nil, List.cons_append, List.nil_append, u8, e1]; done)
    | (have hh : headOf tag bs.length = [tag, 129, UInt8.ofNat bs.length] := by unfold headOf; rw [if_neg (by omega), if_pos (by omega)]
       have e1 : (UInt8.ofNat bs.length).toNat = bs.length := ofNat_toNat_lt (by omega)
       have e2 : (129 : UInt8).toNat = 129 := rfl
       rw [hh]
       simp only [List.map_append, List.map_cons, List.map_nil, List.cons_append, List.nil_append, u8, e1, e2, Int.cast_ofNat_Int]; done)
    | (have hh : headOf tag bs.length = [tag, 130, UInt8.ofNat (bs.length / 256), UInt8.ofNat bs.length] := by unfold headOf; rw [if_neg (by omega), if_neg (by omega)]
       have e1 : (UInt8.ofNat (bs.length / 256)).toNat = bs.length / 256 := by rw [UInt8.toNat_ofNat']; omega
       have e3 : (UInt8.ofNat bs.length).toNat = bs.length % 256 := by rw [UInt8.toNat_ofNat']
       have e2 : (130 : UInt8).toNat = 130 := rfl
       rw [hh]
       simp only [List.map_append, List.map_cons, List.map_nil, List.cons_append, List.nil_append, u8, e1, e2, e3, Int.cast_ofNat_Int, Int.natCast_ediv, Int.natCast_emod]; done)
    | trace_state
def k41_VsCMore : List Nat := [0,1,2,3,4]
attribute [go_sem] k41_VsCMore
theorem f41_ok (a b : UInt8) (na nb : Bool) (xs bs : List UInt8) : CallsP Try.prog 41 [.agg [.int .u8 a.toNat, .sl none na 1 (xs.map u8)], .agg [.int .u8 b.toNat, .sl none nb 1 (bs.map u8)]] (.bool (decide (a = b) && (xs == bs))) := by
  refine CallsP.intro Try.func41 rfl (by show 2 ≤ 19; decide) ?_
  rintro X hX
  have hn : X.n = 19 := hX
  unfold Try.f41
  dsimp only
  rw [entry2]
  repeat' first
    | with_reducible (first | refine AWP.seqA ?_ | refine AWP.seqB ?_ | refine AWP.block ?_ | refine AWP.skipN ?_ | refine AWP.skip ?_ | refine AWP.exit ?_ | refine AWP.ret ?_ | refine AWP.loopT 3 ?_ | refine AWP.unroll 3 ?_ | refine LoopN.succ ?_ | refine thenS_n ?_ | refine thenS_x ?_ | refine thenS_r ?_ | refine blockS_n ?_ | refine blockS_r ?_ | refine blockS_x ?_ | refine blockS_y (by decide) ?_)
    | ((with_reducible refine hK _ ?_); clear hK K) | ((with_reducible refine hKt ?_); clear hKt hKf Kt Kf) | ((with_reducible refine hKf ?_); clear hKt hKf Kt Kf) | ((with_reducible refine condP_split (fun hg => hKt ?_) (fun hg => hKf ?_)) <;> clear hKt hKf Kt Kf <;> (try simp only [hgW] at hg) <;> try (exfalso; omega))
    | ((first | (with_reducible refine guardP_split (fun hg => ?_) (fun hg => ?_)) <;> simp -implicitDefEqProofs only [hg, bytesOf_u8, Int.cast_ofNat_Int, hn, go_sem, simprocAttr] <;> (try simp only [hgW] at hg) | ((first | with_reducible (first | refine AWP.seqRB k41_VsCMore fun K hK => ?_ | refine AWP.lastRB k41_VsCMore fun K hK => ?_ | refine AWP.seqC fun Kt Kf hKt hKf => ?_ | refine AWP.condK fun Kt Kf hKt hKf => ?_ | refine retS_ret ?_ | refine retS_end ?_)); simp -implicitDefEqProofs only [bytesOf_u8, Int.cast_ofNat_Int, hn, go_sem, simprocAttr])) <;> try simp (disch := omega) only [wrW])
    | with_reducible refine And.intro (by first | omega | (simp only [hgW]; omega)) ?_
    | (exfalso; omega)
  all_goals clear hX hn X
  · have e : a = b := UInt8.toNat_inj.1 (by omega)
    simp [e]
  · have e : ¬ a = b := fun e => hg (by rw [e])
    simp [e]
/-- What was written is read. -/
theorem read_write {tag : UInt8} {bs beh : List UInt8} (h31 : tag.toNat % 32 ≠ 31) (hl : (headOf tag bs.length).length + bs.length + beh.length ≤ 4096) :
    readSpec (headOf tag bs.length ++ bs ++ beh) = .inr ((headOf tag bs.length).length, bs.length) ∧ (headOf tag bs.length ++ bs ++ beh).getD 0 default = tag := by
  have e2 : (130 : UInt8).toNat = 130 := rfl
  have e3 : (129 : UInt8).toNat = 129 := rfl
  by_cases h1 : bs.length < 128
  · have hh : headOf tag bs.length = [tag, UInt8.ofNat bs.length] := by unfold headOf; rw [if_pos (by omega)]
    have e1 : (UInt8.ofNat bs.length).toNat = bs.length := ofNat_toNat_lt (by omega)
    rw [hh] at hl ⊢
    simp only [List.length_cons, List.length_nil] at hl
    unfold readSpec
    simp only [List.cons_append, List.nil_append, List.getD_cons_zero, List.getD_cons_succ, List.length_cons, List.length_append, List.length_nil, e1]
    rw [if_neg (by omega), if_neg (by omega), if_neg (by omega), if_pos (by omega), if_neg (by omega)]
    exact ⟨rfl, trivial⟩
  · by_cases h2 : bs.length < 256
    · have hh : headOf tag bs.length = [tag, 129, UInt8.ofNat bs.length] := by unfold headOf; rw [if_neg (by omega), if_pos (by omega)]
      have e1 : (UInt8.ofNat bs.length).toNat = bs.length := ofNat_toNat_lt (by omega)
      rw [hh] at hl ⊢
      simp only [List.length_cons, List.length_nil] at hl
      unfold readSpec
      simp only [List.cons_append, List.nil_append, List.getD_cons_zero, List.getD_cons_succ, List.length_cons, List.length_append, List.length_nil, e1, e3]
      rw [if_neg (by omega), if_neg (by omega), if_neg (by omega), if_neg (by omega), if_neg (by omega), if_neg (by omega), if_neg (by omega), if_pos trivial, if_neg (by omega), if_neg (by omega)]
      exact ⟨rfl, trivial⟩
    · have hh : headOf tag bs.length = [tag, 130, UInt8.ofNat (bs.length / 256), UInt8.ofNat bs.length] := by unfold headOf; rw [if_neg (by omega), if_neg (by omega)]
      rw [hh] at hl ⊢
      simp only [List.length_cons, List.length_nil] at hl
      have e1 : (UInt8.ofNat (bs.length / 256)).toNat = bs.length / 256 := ofNat_toNat_lt (by omega)
      have e4 : (UInt8.ofNat bs.length).toNat = bs.length % 256 := by rw [UInt8.toNat_ofNat']
      unfold readSpec
      simp only [List.cons_append, List.nil_append, List.getD_cons_zero, List.getD_cons_succ, List.length_cons, List.length_append, List.length_nil, e1, e2, e4]
      rw [if_neg (by omega), if_neg (by omega), if_neg (by omega), if_neg (by omega), if_neg (by omega), if_neg (by omega), if_neg (by omega), if_neg (by omega), if_neg (by omega)]
      have e5 : bs.length / 256 * 256 + bs.length % 256 = bs.length := by omega
      rw [e5]
      exact ⟨rfl, trivial⟩
end Go.Proofs.Ytedjcbdhafmjiaa
