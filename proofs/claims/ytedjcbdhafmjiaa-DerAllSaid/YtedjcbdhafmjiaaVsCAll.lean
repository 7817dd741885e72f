/- The law DerAll's code answers true. -/
import Derived.Test.YtedjcbdhafmjiaaVsCWalk
open Go Go.VS
namespace Go.Proofs.Ytedjcbdhafmjiaa
set_option linter.unusedVariables false
set_option linter.unusedSimpArgs false
set_option maxRecDepth 20000
set_option maxHeartbeats 4000000
def k8_VsCAll : List Nat := [0,1,4,5,6,7,8,9,10,11,12,13,14,15,16,18,21,29,38,63,74]
attribute [go_sem] k8_VsCAll
theorem f8_ok (nb : Bool) (bs : List UInt8) (hnb : nb = true → bs = []) (stop : UInt8) : CallsP Try.prog 8 [.sl none nb 1 (bs.map u8), .int .u8 stop.toNat] (.bool true) := by
  have hst := stop.toNat_lt
  refine CallsP.intro Try.func8 rfl (by show 2 ≤ 103; decide) ?_
  rintro X hX
  have hn : X.n = 103 := hX
  unfold Try.f8
  dsimp only
  rw [entry2]
  repeat' first
    | with_reducible (first | refine AWP.seqA ?_ | refine AWP.seqB ?_ | refine AWP.block ?_ | refine AWP.skipN ?_ | refine AWP.skip ?_ | refine AWP.exit ?_ | refine AWP.ret ?_ | refine LoopN.succ ?_ | refine thenS_n ?_ | refine thenS_x ?_ | refine thenS_r ?_ | refine blockS_n ?_ | refine blockS_r ?_ | refine blockS_x ?_ | refine blockS_y (by decide) ?_)
    | ((with_reducible refine hK _ ?_); clear hK K) | ((with_reducible refine hKt ?_); clear hKt hKf Kt Kf) | ((with_reducible refine hKf ?_); clear hKt hKf Kt Kf) | ((with_reducible refine condP_split (fun hg => hKt ?_) (fun hg => hKf ?_)) <;> clear hKt hKf Kt Kf <;> (try simp only [hgW] at hg) <;> try (exfalso; omega))
    | ((first | (with_reducible refine guardP_split (fun hg => ?_) (fun hg => ?_)) <;> simp -implicitDefEqProofs only [hg, hn, go_sem, simprocAttr] <;> (try simp only [hgW] at hg) | ((first | with_reducible (first | refine AWP.seqRB k8_VsCAll fun K hK => ?_ | refine AWP.lastRB k8_VsCAll fun K hK => ?_ | refine AWP.seqC fun Kt Kf hKt hKf => ?_ | refine AWP.condK fun Kt Kf hKt hKf => ?_ | refine retS_ret ?_ | refine retS_end ?_) | refine callE_P (f16_ok) ?_ | refine callP_intro2 (f16_ok) ?_ | refine callE_X (f16_ok) ?_); simp -implicitDefEqProofs only [hn, go_sem, simprocAttr])) <;> try simp (disch := omega) only [wrW])
    | with_reducible refine And.intro (by first | omega | (simp only [hgW]; omega)) ?_
    | (exfalso; omega)
  refine AWP.adopt 5 (0, 999) 0 2 (by rfl) ?_
  refine AWP.loopX [0, 1, 5, 6, 7] [8] (fun x : Bool × List UInt8 × List Zt × Int => St.mk (lk [(0, .sl none nb 1 (bs.map u8)), (1, .int .u8 stop.toNat), (5, .sl (some ((0, 999), 0)) (decide (x.2.2.1 = [])) 2 ((x.2.2.1.map pz).map pAV)), (6, .int .i64 x.2.2.2), (7, .sl none x.1 1 (x.2.1.map u8))]) (lkB []) (hasS []) (hasS []) (hasN []) (lkR []))
    (fun x => (x.1 = true → x.2.1 = []) ∧ x.2.1.length + x.2.2.1.length ≤ 3000 ∧ (∀ z ∈ x.2.2.1, z.e = 0) ∧ ((x.2.2.2 = 0 ∧ zsS bs = x.2.2.1 ++ zsS x.2.1) ∨ ((x.2.2.2 = 3 ∨ x.2.2.2 = 30) ∧ x.2.1 = [] ∧ zsS bs = x.2.2.1 ++ [⟨0, [], x.2.2.2⟩]))) (fun x => x.2.1.length) (nb, bs, [], 0) ?_ ⟨hnb, by simp; omega, by simp, .inl ⟨rfl, rfl⟩⟩ ?_
  · simp -implicitDefEqProofs only [hn, go_sem, simprocAttr]
    try rfl
  · rintro ⟨nc, cs, zs1, er⟩ ⟨h1, h2, h3, h4⟩
    simp only at h1 h2 h3 h4 ⊢
    by_cases hc : 0 < cs.length
    · have hc0 : cs ≠ [] := List.length_pos_iff.1 hc
      have h5 : er = 0 ∧ zsS bs = zs1 ++ zsS cs := by
        rcases h4 with h4 | ⟨_, h4, _⟩
        · exact h4
        · exact (hc0 h4).elim
      obtain ⟨rfl, h5⟩ := h5
      have hz := zsS_cons hc0
      have c27 := f27_ok nc cs h1
      unfold refA at c27
      cases hs : readSpec cs with
      | inl e =>
        rw [hs] at c27 hz
        simp only at c27 hz
        have he := spec_err hs
        repeat' first
          | with_reducible (first | refine AWP.seqA ?_ | refine AWP.seqB ?_ | refine AWP.block ?_ | refine AWP.skipN ?_ | refine AWP.skip ?_ | refine AWP.exit ?_ | refine AWP.ret ?_ | refine LoopN.succ ?_ | refine thenS_n ?_ | refine thenS_x ?_ | refine thenS_r ?_ | refine blockS_n ?_ | refine blockS_r ?_ | refine blockS_x ?_ | refine blockS_y (by decide) ?_)
          | ((with_reducible refine hK _ ?_); clear hK K) | ((with_reducible refine hKt ?_); clear hKt hKf Kt Kf) | ((with_reducible refine hKf ?_); clear hKt hKf Kt Kf) | ((with_reducible refine condP_split (fun hg => hKt ?_) (fun hg => hKf ?_)) <;> clear hKt hKf Kt Kf <;> (try simp only [hgW] at hg) <;> try (exfalso; omega))
          | ((first | (with_reducible refine guardP_split (fun hg => ?_) (fun hg => ?_)) <;> simp -implicitDefEqProofs only [hg, hn, go_sem, simprocAttr] <;> (try simp only [hgW] at hg) | ((first | with_reducible (first | refine AWP.seqRB k8_VsCAll fun K hK => ?_ | refine AWP.lastRB k8_VsCAll fun K hK => ?_ | refine AWP.seqC fun Kt Kf hKt hKf => ?_ | refine AWP.condK fun Kt Kf hKt hKf => ?_ | refine retS_ret ?_ | refine retS_end ?_) | refine callE_P (c27) ?_ | refine callP_intro2 (c27) ?_ | refine callE_X (c27) ?_); simp -implicitDefEqProofs only [hn, go_sem, simprocAttr])) <;> try simp (disch := omega) only [wrW])
          | with_reducible refine And.intro (by first | omega | (simp only [hgW]; omega)) ?_
          | (exfalso; omega)
        refine ⟨(true, [], zs1, e), ?_, ⟨fun _ => rfl, by simp; omega, h3, .inr ⟨he, rfl, by rw [h5, hz]⟩⟩, by simpa using hc⟩
        simp -implicitDefEqProofs only [hn, go_sem, simprocAttr]
      | inr p =>
        obtain ⟨h, k⟩ := p
        rw [hs] at c27 hz
        simp only at c27 hz
        have hp := spec_pos hs
        repeat' first
          | with_reducible (first | refine AWP.seqA ?_ | refine AWP.seqB ?_ | refine AWP.block ?_ | refine AWP.skipN ?_ | refine AWP.skip ?_ | refine AWP.exit ?_ | refine AWP.ret ?_ | refine LoopN.succ ?_ | refine thenS_n ?_ | refine thenS_x ?_ | refine thenS_r ?_ | refine blockS_n ?_ | refine blockS_r ?_ | refine blockS_x ?_ | refine blockS_y (by decide) ?_)
          | ((with_reducible refine hK _ ?_); clear hK K) | ((with_reducible refine hKt ?_); clear hKt hKf Kt Kf) | ((with_reducible refine hKf ?_); clear hKt hKf Kt Kf) | ((with_reducible refine condP_split (fun hg => hKt ?_) (fun hg => hKf ?_)) <;> clear hKt hKf Kt Kf <;> (try simp only [hgW] at hg) <;> try (exfalso; omega))
          | ((first | (with_reducible refine guardP_split (fun hg => ?_) (fun hg => ?_)) <;> simp -implicitDefEqProofs only [hg, hn, go_sem, simprocAttr] <;> (try simp only [hgW] at hg) | ((first | with_reducible (first | refine AWP.seqRB k8_VsCAll fun K hK => ?_ | refine AWP.lastRB k8_VsCAll fun K hK => ?_ | refine AWP.seqC fun Kt Kf hKt hKf => ?_ | refine AWP.condK fun Kt Kf hKt hKf => ?_ | refine retS_ret ?_ | refine retS_end ?_) | refine callE_P (c27) ?_ | refine callP_intro2 (c27) ?_ | refine callE_X (c27) ?_); simp -implicitDefEqProofs only [hn, go_sem, simprocAttr])) <;> try simp (disch := omega) only [wrW])
          | with_reducible refine And.intro (by first | omega | (simp only [hgW]; omega)) ?_
          | (exfalso; omega)
        refine ⟨(false, cs.drop (h + k), zs1 ++ [⟨cs.getD 0 default, (cs.drop h).take k, 0⟩], 0), ?_, ⟨by simp, by simp; omega, ?_, .inl ⟨rfl, by rw [h5, hz]; simp⟩⟩, by simp; omega⟩
        · simp -implicitDefEqProofs only [hn, go_sem, simprocAttr]
          simp [pAV, pz]
        · intro z hz
          rcases List.mem_append.1 hz with hz | hz
          · exact h3 z hz
          · simp at hz; rw [hz]
    · have hc0 : cs = [] := List.length_eq_zero_iff.1 (by omega)
      subst hc0
      have hle : bs.length ≤ 10000 := by omega
      have h6 : ∃ qs, zsS bs = zs1 ++ qs ∧ ((er = 0 ∧ qs = []) ∨ (er ≠ 0 ∧ qs = [⟨0, [], er⟩])) := by
        rcases h4 with ⟨rfl, h⟩ | ⟨h, _, h'⟩
        · exact ⟨_, h, .inl ⟨rfl, zsS_nil⟩⟩
        · exact ⟨_, h', .inr ⟨by omega, rfl⟩⟩
      obtain ⟨qs, h7, h8⟩ := h6
      have hT : ((zsS bs).length : Int) = zs1.length + (if er = 0 then 0 else 1) := by
        rw [h7]
        rcases h8 with ⟨rfl, rfl⟩ | ⟨h, rfl⟩
        · simp
        · simp [h]
      have c1 := f33_ok nb (decide (zs1 = [])) bs hnb hle zs1 qs er stop.toNat h7 h3 h8
      have c2 := f33_ok nb (decide (zs1 = [])) bs hnb hle zs1 qs er (-1) h7 h3 h8
      have e2 : cntS (zsS bs).length (-1) = (zsS bs).length := if_neg (by omega)
      rw [e2, hT] at c2
      by_cases hq : 1 ≤ (stop.toNat : Int) ∧ (stop.toNat : Int) ≤ (zsS bs).length
      · have e1 : cntS (zsS bs).length stop.toNat = stop.toNat := if_pos hq
        rw [e1] at c1
        rw [hT] at hq
        by_cases he : er = 0
        · subst he
          simp only [if_true, Int.add_zero] at c2 hq
          repeat' first
            | with_reducible (first | refine AWP.seqA ?_ | refine AWP.seqB ?_ | refine AWP.block ?_ | refine AWP.skipN ?_ | refine AWP.skip ?_ | refine AWP.exit ?_ | refine AWP.ret ?_ | refine LoopN.succ ?_ | refine thenS_n ?_ | refine thenS_x ?_ | refine thenS_r ?_ | refine blockS_n ?_ | refine blockS_r ?_ | refine blockS_x ?_ | refine blockS_y (by decide) ?_)
            | ((with_reducible refine hK _ ?_); clear hK K) | ((with_reducible refine hKt ?_); clear hKt hKf Kt Kf) | ((with_reducible refine hKf ?_); clear hKt hKf Kt Kf) | ((with_reducible refine condP_split (fun hg => hKt ?_) (fun hg => hKf ?_)) <;> clear hKt hKf Kt Kf <;> (try simp only [hgW] at hg) <;> try (exfalso; omega))
            | ((first | (with_reducible refine guardP_split (fun hg => ?_) (fun hg => ?_)) <;> simp -implicitDefEqProofs only [hg, hn, go_sem, simprocAttr] <;> (try simp only [hgW] at hg) | ((first | with_reducible (first | refine AWP.seqRB k8_VsCAll fun K hK => ?_ | refine AWP.lastRB k8_VsCAll fun K hK => ?_ | refine AWP.seqC fun Kt Kf hKt hKf => ?_ | refine AWP.condK fun Kt Kf hKt hKf => ?_ | refine retS_ret ?_ | refine retS_end ?_) | refine callE_P (c1) ?_ | refine callP_intro2 (c1) ?_ | refine callE_X (c1) ?_ | refine callE_P (c2) ?_ | refine callP_intro2 (c2) ?_ | refine callE_X (c2) ?_); simp -implicitDefEqProofs only [hn, go_sem, simprocAttr])) <;> try simp (disch := omega) only [wrW])
            | with_reducible refine And.intro (by first | omega | (simp only [hgW]; omega)) ?_
            | (exfalso; omega)
          all_goals trace_state
        · rw [if_neg he] at c2 hq
          repeat' first
            | with_reducible (first | refine AWP.seqA ?_ | refine AWP.seqB ?_ | refine AWP.block ?_ | refine AWP.skipN ?_ | refine AWP.skip ?_ | refine AWP.exit ?_ | refine AWP.ret ?_ | refine LoopN.succ ?_ | refine thenS_n ?_ | refine thenS_x ?_ | refine thenS_r ?_ | refine blockS_n ?_ | refine blockS_r ?_ | refine blockS_x ?_ | refine blockS_y (by decide) ?_)
            | ((with_reducible refine hK _ ?_); clear hK K) | ((with_reducible refine hKt ?_); clear hKt hKf Kt Kf) | ((with_reducible refine hKf ?_); clear hKt hKf Kt Kf) | ((with_reducible refine condP_split (fun hg => hKt ?_) (fun hg => hKf ?_)) <;> clear hKt hKf Kt Kf <;> (try simp only [hgW] at hg) <;> try (exfalso; omega))
            | ((first | (with_reducible refine guardP_split (fun hg => ?_) (fun hg => ?_)) <;> simp -implicitDefEqProofs only [hg, hn, go_sem, simprocAttr] <;> (try simp only [hgW] at hg) | ((first | with_reducible (first | refine AWP.seqRB k8_VsCAll fun K hK => ?_ | refine AWP.lastRB k8_VsCAll fun K hK => ?_ | refine AWP.seqC fun Kt Kf hKt hKf => ?_ | refine AWP.condK fun Kt Kf hKt hKf => ?_ | refine retS_ret ?_ | refine retS_end ?_) | refine callE_P (c1) ?_ | refine callP_intro2 (c1) ?_ | refine callE_X (c1) ?_ | refine callE_P (c2) ?_ | refine callP_intro2 (c2) ?_ | refine callE_X (c2) ?_); simp -implicitDefEqProofs only [hn, go_sem, simprocAttr])) <;> try simp (disch := omega) only [wrW])
            | with_reducible refine And.intro (by first | omega | (simp only [hgW]; omega)) ?_
            | (exfalso; omega)
          all_goals trace_state
      · have e1 : cntS (zsS bs).length stop.toNat = (zsS bs).length := if_neg hq
        rw [e1, hT] at c1
        rw [hT] at hq
        by_cases he : er = 0
        · subst he
          simp only [if_true, Int.add_zero] at c1 c2 hq
          repeat' first
            | with_reducible (first | refine AWP.seqA ?_ | refine AWP.seqB ?_ | refine AWP.block ?_ | refine AWP.skipN ?_ | refine AWP.skip ?_ | refine AWP.exit ?_ | refine AWP.ret ?_ | refine LoopN.succ ?_ | refine thenS_n ?_ | refine thenS_x ?_ | refine thenS_r ?_ | refine blockS_n ?_ | refine blockS_r ?_ | refine blockS_x ?_ | refine blockS_y (by decide) ?_)
            | ((with_reducible refine hK _ ?_); clear hK K) | ((with_reducible refine hKt ?_); clear hKt hKf Kt Kf) | ((with_reducible refine hKf ?_); clear hKt hKf Kt Kf) | ((with_reducible refine condP_split (fun hg => hKt ?_) (fun hg => hKf ?_)) <;> clear hKt hKf Kt Kf <;> (try simp only [hgW] at hg) <;> try (exfalso; omega))
            | ((first | (with_reducible refine guardP_split (fun hg => ?_) (fun hg => ?_)) <;> simp -implicitDefEqProofs only [hg, hn, go_sem, simprocAttr] <;> (try simp only [hgW] at hg) | ((first | with_reducible (first | refine AWP.seqRB k8_VsCAll fun K hK => ?_ | refine AWP.lastRB k8_VsCAll fun K hK => ?_ | refine AWP.seqC fun Kt Kf hKt hKf => ?_ | refine AWP.condK fun Kt Kf hKt hKf => ?_ | refine retS_ret ?_ | refine retS_end ?_) | refine callE_P (c1) ?_ | refine callP_intro2 (c1) ?_ | refine callE_X (c1) ?_ | refine callE_P (c2) ?_ | refine callP_intro2 (c2) ?_ | refine callE_X (c2) ?_); simp -implicitDefEqProofs only [hn, go_sem, simprocAttr])) <;> try simp (disch := omega) only [wrW])
            | with_reducible refine And.intro (by first | omega | (simp only [hgW]; omega)) ?_
            | (exfalso; omega)
          all_goals trace_state
        · rw [if_neg he] at c1 c2 hq
          repeat' first
            | with_reducible (first | refine AWP.seqA ?_ | refine AWP.seqB ?_ | refine AWP.block ?_ | refine AWP.skipN ?_ | refine AWP.skip ?_ | refine AWP.exit ?_ | refine AWP.ret ?_ | refine LoopN.succ ?_ | refine thenS_n ?_ | refine thenS_x ?_ | refine thenS_r ?_ | refine blockS_n ?_ | refine blockS_r ?_ | refine blockS_x ?_ | refine blockS_y (by decide) ?_)
            | ((with_reducible refine hK _ ?_); clear hK K) | ((with_reducible refine hKt ?_); clear hKt hKf Kt Kf) | ((with_reducible refine hKf ?_); clear hKt hKf Kt Kf) | ((with_reducible refine condP_split (fun hg => hKt ?_) (fun hg => hKf ?_)) <;> clear hKt hKf Kt Kf <;> (try simp only [hgW] at hg) <;> try (exfalso; omega))
            | ((first | (with_reducible refine guardP_split (fun hg => ?_) (fun hg => ?_)) <;> simp -implicitDefEqProofs only [hg, hn, go_sem, simprocAttr] <;> (try simp only [hgW] at hg) | ((first | with_reducible (first | refine AWP.seqRB k8_VsCAll fun K hK => ?_ | refine AWP.lastRB k8_VsCAll fun K hK => ?_ | refine AWP.seqC fun Kt Kf hKt hKf => ?_ | refine AWP.condK fun Kt Kf hKt hKf => ?_ | refine retS_ret ?_ | refine retS_end ?_) | refine callE_P (c1) ?_ | refine callP_intro2 (c1) ?_ | refine callE_X (c1) ?_ | refine callE_P (c2) ?_ | refine callP_intro2 (c2) ?_ | refine callE_X (c2) ?_); simp -implicitDefEqProofs only [hn, go_sem, simprocAttr])) <;> try simp (disch := omega) only [wrW])
            | with_reducible refine And.intro (by first | omega | (simp only [hgW]; omega)) ?_
            | (exfalso; omega)
          all_goals trace_state
end Go.Proofs.Ytedjcbdhafmjiaa
