/- The law DerReads' code answers true. -/
import Derived.Test.YtedjcbdhafmjiaaVsCLists
import Derived.Test.YtedjcbdhafmjiaaVsCAwake
open Go Go.VS
namespace Go.Proofs.Ytedjcbdhafmjiaa
set_option linter.unusedVariables false
set_option linter.unusedSimpArgs false
set_option maxRecDepth 20000
set_option maxHeartbeats 4000000
theorem sameL_self (xs : List (Bool × UInt8 × List UInt8)) : sameL xs xs = true := by simp [sameL]
/-- Whatever a list's answer is. -/
theorem listA_form (bs : List UInt8) : ∃ (nl : Bool) (xs : List (Bool × UInt8 × List UInt8)) (e : Int), listA bs = .tup [.sl none nl 2 (xs.map pAV), .int .i64 e] ∧ xs.length ≤ bs.length := by
  unfold listA
  split
  · refine ⟨(zsS bs).isEmpty, (zsS bs).map fun z => (false, z.tag, z.body), 0, ?_, by simpa using zsS_len bs⟩
    rw [List.map_map]
    rfl
  · exact ⟨true, [], _, rfl, by simp⟩
theorem bytesOf_no : bytesOf [] = some [] := rfl
def k12_VsCReads : List Nat := [0,2,3,4,5,6,7,8,9,10,11,12,13,14,15,16,17,19,22,81,88,104]
attribute [go_sem] k12_VsCReads
theorem f12_ok (nb : Bool) (bs : List UInt8) (hnb : nb = true → bs = []) : CallsP Try.prog 12 [.sl none nb 1 (bs.map u8)] (.bool true) := by
  by_cases hlen : bs.length ≤ 6000
  · obtain ⟨nl, xs, el, hl, hxs⟩ := listA_form bs
    have c42 := f42_ok false bs (by simp) (by omega)
    have c43 := f43_ok nb bs hnb (by omega)
    rw [hl] at c42 c43
    have c44 := f44_ok nl nl xs xs (by omega)
    rw [sameL_self] at c44
    have c40 := f40_any false bs (by simp)
    have c27 := f27_ok nb bs hnb
    have c45 := f45_ok false bs (by simp) (by omega)
    unfold readA at c40
    unfold refA at c27
    unfold seqA at c45
    cases hs : readSpec bs with
    | inl e =>
      have he := spec_err hs
      rw [hs] at c40 c27 c45
      simp only at c40 c27 c45
      have c41 := f41_ok 0 0 true true [] []
      simp only [List.map_nil] at c41
      rw [show ((UInt8.toNat 0 : Nat) : Int) = 0 from rfl] at c41
      refine CallsP.intro Try.func12 rfl (by show 1 ≤ 126; decide) ?_
      rintro X hX
      have hn : X.n = 126 := hX
      unfold Try.f12
      dsimp only
      rw [entry1]
      repeat' first
        | with_reducible (first | refine AWP.seqA ?_ | refine AWP.seqB ?_ | refine AWP.block ?_ | refine AWP.skipN ?_ | refine AWP.skip ?_ | refine AWP.exit ?_ | refine AWP.ret ?_ | refine AWP.loopT 3 ?_ | refine AWP.unroll 3 ?_ | refine LoopN.succ ?_ | refine thenS_n ?_ | refine thenS_x ?_ | refine thenS_r ?_ | refine blockS_n ?_ | refine blockS_r ?_ | refine blockS_x ?_ | refine blockS_y (by decide) ?_)
        | ((with_reducible refine hK _ ?_); clear hK K) | ((with_reducible refine hKt ?_); clear hKt hKf Kt Kf) | ((with_reducible refine hKf ?_); clear hKt hKf Kt Kf) | ((with_reducible refine condP_split (fun hg => hKt ?_) (fun hg => hKf ?_)) <;> clear hKt hKf Kt Kf <;> (try simp only [hgW] at hg) <;> try (exfalso; omega))
        | ((first | (with_reducible refine guardP_split (fun hg => ?_) (fun hg => ?_)) <;> simp -implicitDefEqProofs only [hg, bytesOf_u8, bytesOf_no, hn, go_sem, simprocAttr] <;> (try simp only [hgW] at hg) | ((first | with_reducible (first | refine AWP.seqRB k12_VsCReads fun K hK => ?_ | refine AWP.lastRB k12_VsCReads fun K hK => ?_ | refine AWP.seqC fun Kt Kf hKt hKf => ?_ | refine AWP.condK fun Kt Kf hKt hKf => ?_ | refine retS_ret ?_ | refine retS_end ?_) | refine callE_P (f16_ok) ?_ | refine callP_intro2 (f16_ok) ?_ | refine callE_X (f16_ok) ?_ | refine callE_P (c40) ?_ | refine callP_intro2 (c40) ?_ | refine callE_X (c40) ?_ | refine callE_P (c27) ?_ | refine callP_intro2 (c27) ?_ | refine callE_X (c27) ?_ | refine callE_P (c42) ?_ | refine callP_intro2 (c42) ?_ | refine callE_X (c42) ?_ | refine callE_P (c43) ?_ | refine callP_intro2 (c43) ?_ | refine callE_X (c43) ?_ | refine callE_P (c44) ?_ | refine callP_intro2 (c44) ?_ | refine callE_X (c44) ?_ | refine callE_P (c45) ?_ | refine callP_intro2 (c45) ?_ | refine callE_X (c45) ?_ | refine callE_P (c41) ?_ | refine callP_intro2 (c41) ?_ | refine callE_X (c41) ?_); simp -implicitDefEqProofs only [bytesOf_u8, bytesOf_no, hn, go_sem, simprocAttr])) <;> try simp (disch := omega) only [wrW])
        | with_reducible refine And.intro (by first | omega | (simp only [hgW]; omega)) ?_
        | (exfalso; omega)
      all_goals trace_state
    | inr p =>
      obtain ⟨h, k⟩ := p
      have hp := spec_pos hs
      rw [hs] at c40 c27 c45
      simp only at c40 c27 c45
      have c41 := f41_ok (bs.getD 0 default) (bs.getD 0 default) false false ((bs.drop h).take k) ((bs.drop h).take k)
      by_cases hc : (bs.getD 0 default).toNat = 48 ∧ h + k = bs.length
      · obtain ⟨nl2, xs2, el2, hl2, hxs2⟩ := listA_form ((bs.drop h).take k)
        have c43b := f43_ok false ((bs.drop h).take k) (by simp) (by simp; omega)
        rw [if_pos hc] at c45
        rw [hl2] at c45 c43b
        have c44b := f44_ok nl2 nl2 xs2 xs2 (by simp at hxs2; omega)
        rw [sameL_self] at c44b
        obtain ⟨hc1, hc2⟩ := hc
        refine CallsP.intro Try.func12 rfl (by show 1 ≤ 126; decide) ?_
        rintro X hX
        have hn : X.n = 126 := hX
        unfold Try.f12
        dsimp only
        rw [entry1]
        repeat' first
          | with_reducible (first | refine AWP.seqA ?_ | refine AWP.seqB ?_ | refine AWP.block ?_ | refine AWP.skipN ?_ | refine AWP.skip ?_ | refine AWP.exit ?_ | refine AWP.ret ?_ | refine AWP.loopT 3 ?_ | refine AWP.unroll 3 ?_ | refine LoopN.succ ?_ | refine thenS_n ?_ | refine thenS_x ?_ | refine thenS_r ?_ | refine blockS_n ?_ | refine blockS_r ?_ | refine blockS_x ?_ | refine blockS_y (by decide) ?_)
          | ((with_reducible refine hK _ ?_); clear hK K) | ((with_reducible refine hKt ?_); clear hKt hKf Kt Kf) | ((with_reducible refine hKf ?_); clear hKt hKf Kt Kf) | ((with_reducible refine condP_split (fun hg => hKt ?_) (fun hg => hKf ?_)) <;> clear hKt hKf Kt Kf <;> (try simp only [hgW] at hg) <;> try (exfalso; omega))
          | ((first | (with_reducible refine guardP_split (fun hg => ?_) (fun hg => ?_)) <;> simp -implicitDefEqProofs only [hg, bytesOf_u8, bytesOf_no, hn, go_sem, simprocAttr] <;> (try simp only [hgW] at hg) | ((first | with_reducible (first | refine AWP.seqRB k12_VsCReads fun K hK => ?_ | refine AWP.lastRB k12_VsCReads fun K hK => ?_ | refine AWP.seqC fun Kt Kf hKt hKf => ?_ | refine AWP.condK fun Kt Kf hKt hKf => ?_ | refine retS_ret ?_ | refine retS_end ?_) | refine callE_P (f16_ok) ?_ | refine callP_intro2 (f16_ok) ?_ | refine callE_X (f16_ok) ?_ | refine callE_P (c40) ?_ | refine callP_intro2 (c40) ?_ | refine callE_X (c40) ?_ | refine callE_P (c27) ?_ | refine callP_intro2 (c27) ?_ | refine callE_X (c27) ?_ | refine callE_P (c42) ?_ | refine callP_intro2 (c42) ?_ | refine callE_X (c42) ?_ | refine callE_P (c43) ?_ | refine callP_intro2 (c43) ?_ | refine callE_X (c43) ?_ | refine callE_P (c44) ?_ | refine callP_intro2 (c44) ?_ | refine callE_X (c44) ?_ | refine callE_P (c45) ?_ | refine callP_intro2 (c45) ?_ | refine callE_X (c45) ?_ | refine callE_P (c41) ?_ | refine callP_intro2 (c41) ?_ | refine callE_X (c41) ?_ | refine callE_P (c43b) ?_ | refine callP_intro2 (c43b) ?_ | refine callE_X (c43b) ?_ | refine callE_P (c44b) ?_ | refine callP_intro2 (c44b) ?_ | refine callE_X (c44b) ?_); simp -implicitDefEqProofs only [bytesOf_u8, bytesOf_no, hn, go_sem, simprocAttr])) <;> try simp (disch := omega) only [wrW])
          | with_reducible refine And.intro (by first | omega | (simp only [hgW]; omega)) ?_
          | (exfalso; omega)
        all_goals trace_state
      · rw [if_neg hc] at c45
        refine CallsP.intro Try.func12 rfl (by show 1 ≤ 126; decide) ?_
        rintro X hX
        have hn : X.n = 126 := hX
        unfold Try.f12
        dsimp only
        rw [entry1]
        repeat' first
          | with_reducible (first | refine AWP.seqA ?_ | refine AWP.seqB ?_ | refine AWP.block ?_ | refine AWP.skipN ?_ | refine AWP.skip ?_ | refine AWP.exit ?_ | refine AWP.ret ?_ | refine AWP.loopT 3 ?_ | refine AWP.unroll 3 ?_ | refine LoopN.succ ?_ | refine thenS_n ?_ | refine thenS_x ?_ | refine thenS_r ?_ | refine blockS_n ?_ | refine blockS_r ?_ | refine blockS_x ?_ | refine blockS_y (by decide) ?_)
          | ((with_reducible refine hK _ ?_); clear hK K) | ((with_reducible refine hKt ?_); clear hKt hKf Kt Kf) | ((with_reducible refine hKf ?_); clear hKt hKf Kt Kf) | ((with_reducible refine condP_split (fun hg => hKt ?_) (fun hg => hKf ?_)) <;> clear hKt hKf Kt Kf <;> (try simp only [hgW] at hg) <;> try (exfalso; omega))
          | ((first | (with_reducible refine guardP_split (fun hg => ?_) (fun hg => ?_)) <;> simp -implicitDefEqProofs only [hg, bytesOf_u8, bytesOf_no, hn, go_sem, simprocAttr] <;> (try simp only [hgW] at hg) | ((first | with_reducible (first | refine AWP.seqRB k12_VsCReads fun K hK => ?_ | refine AWP.lastRB k12_VsCReads fun K hK => ?_ | refine AWP.seqC fun Kt Kf hKt hKf => ?_ | refine AWP.condK fun Kt Kf hKt hKf => ?_ | refine retS_ret ?_ | refine retS_end ?_) | refine callE_P (f16_ok) ?_ | refine callP_intro2 (f16_ok) ?_ | refine callE_X (f16_ok) ?_ | refine callE_P (c40) ?_ | refine callP_intro2 (c40) ?_ | refine callE_X (c40) ?_ | refine callE_P (c27) ?_ | refine callP_intro2 (c27) ?_ | refine callE_X (c27) ?_ | refine callE_P (c42) ?_ | refine callP_intro2 (c42) ?_ | refine callE_X (c42) ?_ | refine callE_P (c43) ?_ | refine callP_intro2 (c43) ?_ | refine callE_X (c43) ?_ | refine callE_P (c44) ?_ | refine callP_intro2 (c44) ?_ | refine callE_X (c44) ?_ | refine callE_P (c45) ?_ | refine callP_intro2 (c45) ?_ | refine callE_X (c45) ?_ | refine callE_P (c41) ?_ | refine callP_intro2 (c41) ?_ | refine callE_X (c41) ?_); simp -implicitDefEqProofs only [bytesOf_u8, bytesOf_no, hn, go_sem, simprocAttr])) <;> try simp (disch := omega) only [wrW])
          | with_reducible refine And.intro (by first | omega | (simp only [hgW]; omega)) ?_
          | (exfalso; omega)
        all_goals trace_state
  · refine CallsP.intro Try.func12 rfl (by show 1 ≤ 126; decide) ?_
    rintro X hX
    have hn : X.n = 126 := hX
    unfold Try.f12
    dsimp only
    rw [entry1]
    repeat' first
      | with_reducible (first | refine AWP.seqA ?_ | refine AWP.seqB ?_ | refine AWP.block ?_ | refine AWP.skipN ?_ | refine AWP.skip ?_ | refine AWP.exit ?_ | refine AWP.ret ?_ | refine AWP.loopT 3 ?_ | refine AWP.unroll 3 ?_ | refine LoopN.succ ?_ | refine thenS_n ?_ | refine thenS_x ?_ | refine thenS_r ?_ | refine blockS_n ?_ | refine blockS_r ?_ | refine blockS_x ?_ | refine blockS_y (by decide) ?_)
      | ((with_reducible refine hK _ ?_); clear hK K) | ((with_reducible refine hKt ?_); clear hKt hKf Kt Kf) | ((with_reducible refine hKf ?_); clear hKt hKf Kt Kf) | ((with_reducible refine condP_split (fun hg => hKt ?_) (fun hg => hKf ?_)) <;> clear hKt hKf Kt Kf <;> (try simp only [hgW] at hg) <;> try (exfalso; omega))
      | ((first | (with_reducible refine guardP_split (fun hg => ?_) (fun hg => ?_)) <;> simp -implicitDefEqProofs only [hg, bytesOf_u8, bytesOf_no, hn, go_sem, simprocAttr] <;> (try simp only [hgW] at hg) | ((first | with_reducible (first | refine AWP.seqRB k12_VsCReads fun K hK => ?_ | refine AWP.lastRB k12_VsCReads fun K hK => ?_ | refine AWP.seqC fun Kt Kf hKt hKf => ?_ | refine AWP.condK fun Kt Kf hKt hKf => ?_ | refine retS_ret ?_ | refine retS_end ?_) | refine callE_P (f16_ok) ?_ | refine callP_intro2 (f16_ok) ?_ | refine callE_X (f16_ok) ?_); simp -implicitDefEqProofs only [bytesOf_u8, bytesOf_no, hn, go_sem, simprocAttr])) <;> try simp (disch := omega) only [wrW])
      | with_reducible refine And.intro (by first | omega | (simp only [hgW]; omega)) ?_
      | (exfalso; omega)
end Go.Proofs.Ytedjcbdhafmjiaa
