/- Parse and the document's Parse agree: plain law. -/
import Derived.Test.YtfemncfhiihckaaDoorVsLAgr2
open Go Go.VS
namespace Go.Proofs.YtfemncfhiihckaaDoor
set_option linter.unusedVariables false
set_option linter.unusedSimpArgs false
set_option maxRecDepth 20000
set_option maxHeartbeats 4000000
theorem isC_take (s : RJ) (c : UInt8) (w : List UInt8) (h : (s.b.drop s.at_).take (w.length + 1) = c :: w) : isC s c = true := by
  rw [isC_iff]
  have hl : s.at_ < s.b.length := by
    have := congrArg List.length h
    simp only [List.length_take, List.length_drop, List.length_cons] at this
    omega
  refine ⟨hl, ?_⟩
  rw [drop_at s.b s.at_ hl, List.take_succ_cons] at h
  exact (List.cons.inj h).1
theorem group_obj (vs vr : RJ → Nat × RJ) (hV : ∀ s, OkJ s → s.err = 0 → s.deep ≤ 8 → AgrV (vs s) (vr s)) (hE : ∀ s, s.err ≠ 0 → (vs s).2 = s) (K : KeepV vs) (s : RJ) (h : OkJ s) (he : s.err = 0) (hd : s.deep ≤ 8) (hc : isC s 123 = true) :
    (objectS vs s).2.err = (groupS vr s).2.err ∧ ((objectS vs s).2.err = 0 → groupS vr s = objectS vs s) := by
  have hk : kindC s = 1 := if_pos hc
  have hs : shutC s = 125 := if_pos hc
  obtain ⟨p1, p2, p3, p4, p5⟩ := openS_b s
  unfold objectS groupS
  by_cases h8 : s.deep = 8
  · have ho : (openS s).err = 13 := by
      unfold openS
      rw [if_pos (by omega)]
      exact fail_zero _ _ he
    have ho0 : (openS s).err ≠ 0 := by rw [ho]; decide
    rw [if_pos h8, sign_err _ _ ho0, if_neg (show ¬ false = true by decide), objS_err _ _ _ _ _ ho0]
    have hf : (s.fail 13).err = 13 := fail_zero _ _ he
    refine ⟨ho.trans hf.symm, fun e => ?_⟩
    have e : (openS s).err = 0 := e
    exact (ho0 e).elim
  have hO : openS s = { s with deep := s.deep + 1, at_ := s.at_ + 1 } := by unfold openS; rw [if_neg (by omega)]
  have kO : OkJ (openS s) := (keep_open s h (isC_lt hc).1).2.2.1
  have hOe : (openS s).err = 0 := by rw [hO]; exact he
  have hB : groupB s = blankS (openS s) := by rw [hO]; rfl
  rw [if_neg h8, hB, hs, hk, hc, sign_blank _ hOe 125 (by decide)]
  have kB := ok_blank _ kO
  have hBd : (blankS (openS s)).deep ≤ 8 := by show (openS s).deep ≤ 8; rw [p2]; omega
  have hBB : blankS (blankS (openS s)) = blankS (openS s) := blank_blank _
  generalize blankS (openS s) = B at *
  by_cases h125 : isC B 125 = true
  · rw [if_pos h125, if_pos h125, if_pos (show true = true from rfl)]
    exact ⟨rfl, fun _ => rfl⟩
  · rw [if_neg h125, if_neg h125, if_neg (show ¬ false = true by decide)]
    obtain ⟨a1, a2⟩ := obj_agr hV hE K 300 B [] [] kB hBd
    refine ⟨a1, fun e => ?_⟩
    rw [a2 e]
    rfl
theorem group_arr (vs vr : RJ → Nat × RJ) (hV : ∀ s, OkJ s → s.err = 0 → s.deep ≤ 8 → AgrV (vs s) (vr s)) (K : KeepV vs) (s : RJ) (h : OkJ s) (he : s.err = 0) (hd : s.deep ≤ 8) (hc : isC s 91 = true) :
    (arrayS vs s).2.err = (groupS vr s).2.err ∧ ((arrayS vs s).2.err = 0 → groupS vr s = arrayS vs s) := by
  have hn : isC s 123 = false := isC_other hc (by decide)
  have hk : kindC s = 2 := if_neg (by rw [hn]; decide)
  have hs : shutC s = 93 := if_neg (by rw [hn]; decide)
  unfold arrayS groupS
  by_cases h8 : s.deep = 8
  · have ho : (openS s).err = 13 := by
      unfold openS
      rw [if_pos (by omega)]
      exact fail_zero _ _ he
    have ho0 : (openS s).err ≠ 0 := by rw [ho]; decide
    rw [if_pos h8, sign_err _ _ ho0, if_neg (show ¬ false = true by decide), arrS_err _ _ _ _ ho0]
    have hf : (s.fail 13).err = 13 := fail_zero _ _ he
    refine ⟨ho.trans hf.symm, fun e => ?_⟩
    have e : (openS s).err = 0 := e
    exact (ho0 e).elim
  have hO : openS s = { s with deep := s.deep + 1, at_ := s.at_ + 1 } := by unfold openS; rw [if_neg (by omega)]
  have kO : OkJ (openS s) := (keep_open s h (isC_lt hc).1).2.2.1
  have hOe : (openS s).err = 0 := by rw [hO]; exact he
  have hB : groupB s = blankS (openS s) := by rw [hO]; rfl
  rw [if_neg h8, hB, hs, hk, hn, sign_blank _ hOe 93 (by decide)]
  have kB := ok_blank _ kO
  have hBd : (blankS (openS s)).deep ≤ 8 := by show (openS s).deep ≤ 8; rw [(openS_b s).2.1]; omega
  generalize blankS (openS s) = B at *
  by_cases h93 : isC B 93 = true
  · rw [if_pos h93, if_pos h93, if_pos (show true = true from rfl)]
    exact ⟨rfl, fun _ => rfl⟩
  · rw [if_neg h93, if_neg h93, if_neg (show ¬ false = true by decide)]
    obtain ⟨a1, a2⟩ := arr_agr hV K 300 B [] kB hBd
    refine ⟨a1, fun e => ?_⟩
    rw [a2 e]
    rfl
theorem body_agr (vs vr : RJ → Nat × RJ) (hV : ∀ s, OkJ s → s.err = 0 → s.deep ≤ 8 → AgrV (vs s) (vr s)) (hE : ∀ s, s.err ≠ 0 → (vs s).2 = s) (K : KeepV vs) (s : RJ) (c : UInt8) (h : OkJ s) (he : s.err = 0) (hd : s.deep ≤ 8)
    (hc : ∀ d, d ≠ 0 → (c = d ↔ isC s d = true)) (hc0 : c ≠ 0 → s.at_ < s.b.length ∧ s.b.getD s.at_ default = c) :
    (bodyS vs c s).2.err = (endR (bodyR vr s)).err ∧ ((bodyS vs c s).2.err = 0 → bodyS vs c s = ((bodyR vr s).1.1, endR (bodyR vr s))) := by
  unfold bodyS bodyR
  by_cases h123 : c = 123
  · have h1 := (hc 123 (by decide)).1 h123
    obtain ⟨a1, a2⟩ := group_obj vs vr hV hE K s h he hd h1
    rw [if_pos h123, if_pos (by rw [h1]; rfl)]
    unfold endR
    simp only [if_true]
    exact ⟨a1, fun e => (a2 e).symm⟩
  rw [if_neg h123]
  have n123 : isC s 123 = false := by rw [← Bool.not_eq_true]; exact fun e => h123 ((hc 123 (by decide)).2 e)
  by_cases h91 : c = 91
  · have h1 := (hc 91 (by decide)).1 h91
    obtain ⟨a1, a2⟩ := group_arr vs vr hV K s h he hd h1
    rw [if_pos h91, if_pos (by rw [h1, Bool.or_true])]
    unfold endR
    simp only [if_true]
    exact ⟨a1, fun e => (a2 e).symm⟩
  rw [if_neg h91]
  have n91 : isC s 91 = false := by rw [← Bool.not_eq_true]; exact fun e => h91 ((hc 91 (by decide)).2 e)
  rw [if_neg (show ¬ (isC s 123 || isC s 91) = true by rw [n123, n91]; decide)]
  by_cases h34 : c = 34
  · have h1 := (hc 34 (by decide)).1 h34
    rw [if_pos h34, if_pos h1]
    have hlt := (isC_lt h1).1
    have hta := tx_agr s.b (s.b.length + 1) (s.at_ + 1) [] (by omega)
    unfold textS textC endR
    generalize txC s.b (s.b.length + 1) (s.at_ + 1) [] = C at *
    generalize txR s.b (s.b.length + 1) (s.at_ + 1) [] = T at *
    obtain ⟨c1, c2, c3⟩ := C
    obtain ⟨t1, t2, t3⟩ := T
    simp only at hta ⊢
    obtain ⟨hc2, hceq⟩ := hta
    subst hc2
    cases c2 with
    | true =>
      have e := hceq rfl
      simp only [Prod.mk.injEq, true_and] at e
      obtain ⟨rfl, rfl⟩ := e
      simp only [if_true]
      exact ⟨trivial, fun _ => trivial⟩
    | false =>
      simp only [Bool.false_eq_true, if_false]
      have e1 : (RJ.fail { s with at_ := c3 } 11).err = 11 := fail_zero _ _ (show ({ s with at_ := c3 } : RJ).err = 0 from he)
      have e2 : (RJ.fail { s with at_ := t3 } 11).err = 11 := fail_zero _ _ (show ({ s with at_ := t3 } : RJ).err = 0 from he)
      exact ⟨e1.trans e2.symm, fun e => by rw [e1] at e; cases e⟩
  rw [if_neg h34]
  rw [if_neg (show ¬ isC s 34 = true from fun e => h34 ((hc 34 (by decide)).2 e))]
  have hw : ∀ (d : UInt8) (w : List UInt8), d ≠ 0 → c ≠ d → (wordC s (d :: w)).1 = false := fun d w hd0 hcd => by
    unfold wordC wordP
    simp only
    rw [if_neg]
    intro e
    exact hcd ((hc d hd0).2 (isC_take s d w e))
  by_cases hn : c = 45 ∨ digit c = true
  · have ht : c ≠ 116 := by rintro rfl; rcases hn with e | e <;> simp [digit] at e
    have hf : c ≠ 102 := by rintro rfl; rcases hn with e | e <;> simp [digit] at e
    have hu : c ≠ 110 := by rintro rfl; rcases hn with e | e <;> simp [digit] at e
    rw [if_pos hn, if_neg (show ¬ (wordC s trueB).1 = true by rw [hw 116 _ (by decide) ht]; decide), if_neg (show ¬ (wordC s falseB).1 = true by rw [hw 102 _ (by decide) hf]; decide), if_neg (show ¬ (wordC s nullB).1 = true by rw [hw 110 _ (by decide) hu]; decide)]
    unfold numberS numberC endR
    generalize numP s.b s.at_ = N
    obtain ⟨ok, e⟩ := N
    simp only
    cases ok with
    | true =>
      simp only [if_true]
      exact ⟨trivial, fun _ => trivial⟩
    | false =>
      simp only [Bool.false_eq_true, if_false]
      have e1 : (RJ.fail { s with at_ := e } 11).err = 11 := fail_zero _ _ (show ({ s with at_ := e } : RJ).err = 0 from he)
      exact ⟨trivial, fun e' => by rw [e1] at e'; cases e'⟩
  rw [if_neg hn]
  have hwp : ∀ w : List UInt8, wordC s w = if (s.b.drop s.at_).take w.length = w then (true, { s with at_ := s.at_ + w.length }) else (false, s) := fun w => by
    unfold wordC wordP
    split <;> rfl
  unfold wordS
  rw [hwp trueB, hwp falseB, hwp nullB]
  by_cases w1 : (s.b.drop s.at_).take 4 = trueB
  · rw [if_pos w1, if_pos (show (s.b.drop s.at_).take trueB.length = trueB from w1)]
    simp only [if_true]
    unfold endR
    simp only [if_true]
    exact ⟨trivial, fun _ => rfl⟩
  rw [if_neg w1, if_neg (show ¬ (s.b.drop s.at_).take trueB.length = trueB from w1), if_neg (show ¬ (false, s).1 = true from Bool.false_ne_true)]
  by_cases w2 : (s.b.drop s.at_).take 5 = falseB
  · rw [if_pos w2, if_pos (show (s.b.drop s.at_).take falseB.length = falseB from w2)]
    simp only [if_true]
    unfold endR
    simp only [if_true]
    exact ⟨trivial, fun _ => rfl⟩
  rw [if_neg w2, if_neg (show ¬ (s.b.drop s.at_).take falseB.length = falseB from w2), if_neg (show ¬ (false, s).1 = true from Bool.false_ne_true)]
  by_cases w3 : (s.b.drop s.at_).take 4 = nullB
  · rw [if_pos w3, if_pos (show (s.b.drop s.at_).take nullB.length = nullB from w3)]
    simp only [if_true]
    unfold endR
    simp only [if_true]
    exact ⟨trivial, fun _ => rfl⟩
  rw [if_neg w3, if_neg (show ¬ (s.b.drop s.at_).take nullB.length = nullB from w3), if_neg (show ¬ (false, s).1 = true from Bool.false_ne_true)]
  -- no number either
  have hN : (numP s.b s.at_).1 = false := by
    have hc45 : (isP s.b s.at_ [45]) = (false, s.at_) := by
      unfold isP
      rw [if_neg]
      rintro ⟨hl, hm⟩
      have hm := List.mem_singleton.1 hm
      exact hn (.inl ((hc 45 (by decide)).2 ((isC_iff _ _).2 ⟨hl, hm⟩)))
    have hdg : digAt s.b s.at_ = s.at_ := by
      by_cases hl : s.at_ < s.b.length
      · refine digAt_stop _ _ hl ?_
        rw [← Bool.not_eq_true]
        intro hd'
        by_cases h0 : s.b.getD s.at_ default = 0
        · rw [h0] at hd'; simp [digit] at hd'
        · have := (hc _ h0).2 ((isC_iff _ _).2 ⟨hl, rfl⟩)
          exact hn (.inr (by rw [this]; exact hd'))
      · exact digAt_end _ _ (by omega)
    unfold numP
    rw [hc45]
    simp only [digP, hdg, Nat.lt_irrefl, decide_false, Bool.false_and]
    unfold numP2 numP4
    simp
  unfold numberC endR
  generalize numP s.b s.at_ = N at *
  obtain ⟨ok, e⟩ := N
  simp only at hN
  subst hN
  simp only [Bool.false_eq_true, if_false]
  have e1 : (s.fail 11).err = 11 := fail_zero _ _ he
  have e2 : (RJ.fail { s with at_ := e } 11).err = 11 := fail_zero _ _ (show ({ s with at_ := e } : RJ).err = 0 from he)
  exact ⟨e1.trans e2.symm, fun e' => by rw [e1] at e'; cases e'⟩
theorem room_blank (s : RJ) (he : s.err = 0) : roomS s = if 256 ≤ (blankS s).nodes.length then (blankS s).fail 14 else blankS s := by
  unfold roomS
  rw [here_blank s he]
  have hBe : (blankS s).err = 0 := he
  by_cases h : 256 ≤ (blankS s).nodes.length
  · rw [if_pos h, if_pos ⟨hBe, h⟩]
  · rw [if_neg h, if_neg fun e => h e.2]
theorem val_agr : ∀ (n : Nat) (s : RJ), OkJ s → s.err = 0 → s.deep ≤ 8 → AgrV (valS n s) (valR n s)
  | 0, s, h, he, hd => ⟨rfl, fun _ => rfl⟩
  | n + 1, s, h, he, hd => by
    have hE := fun s h => val_err n s h
    have K := (valS_keep n).1
    have hBe : (blankS s).err = 0 := he
    have hBd : (blankS s).deep ≤ 8 := hd
    have kB := ok_blank s h
    have hiB := fun d hd0 => here_is s he d hd0
    have hcc := here_c s he
    rw [here_blank s he] at hcc
    show AgrV (valueS (valS n) s) (valueR (valR n) s)
    unfold valueS valueR
    rw [room_blank s he]
    generalize (hereS s).1 = c at *
    generalize blankS s = B at *
    by_cases h256 : B.nodes.length = 256
    · have hf : (B.fail 14).err ≠ 0 := by rw [fail_zero _ _ hBe]; decide
      rw [if_pos h256, if_pos (show 256 ≤ B.nodes.length by omega), if_pos hf]
      exact ⟨rfl, fun _ => rfl⟩
    · have hnod := kB.nod
      rw [if_neg h256, if_neg (show ¬ 256 ≤ B.nodes.length by omega), if_neg (show ¬ B.err ≠ 0 from fun h => h hBe)]
      have kN : OkJ { B with nodes := B.nodes ++ [zeroJ] } := ⟨kB.at_, kB.len, by simp only [List.length_append, List.length_cons, List.length_nil]; omega⟩
      obtain ⟨a1, a2⟩ := body_agr (valS n) (valR n) (val_agr n) hE K { B with nodes := B.nodes ++ [zeroJ] } c kN hBe hBd hiB hcc
      refine ⟨a1, fun e => ?_⟩
      have e' : (bodyS (valS n) c { B with nodes := B.nodes ++ [zeroJ] }).2.err = 0 := e
      rw [a2 e']
theorem parse_agr (b : List UInt8) : parseS b = parseR b := by
  unfold parseS parseR
  by_cases hl : 4096 < b.length
  · rw [if_pos hl, if_pos hl]
  rw [if_neg hl, if_neg hl]
  have hO : OkJ ⟨b, 0, 0, [], 0⟩ := ⟨Nat.zero_le _, by simp only; omega, by simp⟩
  obtain ⟨a1, a2⟩ := val_agr 9 ⟨b, 0, 0, [], 0⟩ hO rfl (by simp)
  have kok := (valS_keep 9).1.ok _ hO
  simp only
  generalize valS 9 ⟨b, 0, 0, [], 0⟩ = V at *
  generalize valR 9 ⟨b, 0, 0, [], 0⟩ = V' at *
  by_cases hve : V.2.err ≠ 0
  · have hve' : V'.2.err ≠ 0 := by rw [← a1]; exact hve
    have hh : hereS V.2 = (0, V.2) := by unfold hereS; rw [if_pos hve]
    have hBe : (blankS V'.2).err ≠ 0 := hve'
    rw [hh, if_neg (show ¬ ((blankS V'.2).err = 0 ∧ (blankS V'.2).at_ < (blankS V'.2).b.length) from fun e => hBe e.1), if_pos hBe]
    have hs : (if (0 : UInt8) ≠ 0 ∨ V.2.at_ < V.2.b.length then V.2.fail 11 else V.2) = V.2 := by rw [fail_err _ _ hve]; split <;> rfl
    simp only
    rw [hs, if_pos hve]
    show ([], V.2.err) = ([], V'.2.err)
    rw [a1]
  · have hve : V.2.err = 0 := Classical.not_not.1 hve
    have hVV := a2 hve
    subst hVV
    have hb := here_blank V.2 hve
    have hcc := here_c V.2 hve
    have hlt : (blankS V.2).at_ < (blankS V.2).b.length → (hereS V.2).1 ≠ 0 ∨ (blankS V.2).at_ < (blankS V.2).b.length := fun h => .inr h
    rw [hb] at hcc ⊢
    have hBe : (blankS V.2).err = 0 := hve
    generalize blankS V.2 = B at *
    generalize (hereS V.2).1 = c at *
    by_cases h : B.at_ < B.b.length
    · rw [if_pos (show c ≠ 0 ∨ B.at_ < B.b.length from .inr h), if_pos (show B.err = 0 ∧ B.at_ < B.b.length from ⟨hBe, h⟩)]
    · have hc0 : c = 0 := by
        by_cases h0 : c = 0
        · exact h0
        · exact (h (hcc h0).1).elim
      rw [if_neg (show ¬ (c ≠ 0 ∨ B.at_ < B.b.length) by rintro (e | e); exact e hc0; exact h e), if_neg (show ¬ (B.err = 0 ∧ B.at_ < B.b.length) from fun e => h e.2)]
end Go.Proofs.YtfemncfhiihckaaDoor
