/- The reader and the document's reader agree: plain law. -/
import Derived.Test.YtfemncfhiihckaaDoorVsKVal
open Go Go.VS
namespace Go.Proofs.YtfemncfhiihckaaDoor
set_option linter.unusedVariables false
set_option linter.unusedSimpArgs false
set_option maxRecDepth 20000
set_option maxHeartbeats 4000000
theorem sign_err (s : RJ) (c : UInt8) (h : s.err ≠ 0) : signS s c = (false, s) := by
  have hh : hereS s = (0, s) := by unfold hereS; rw [if_pos h]
  unfold signS
  rw [hh]
  simp only
  rw [if_pos (.inr (.inl h))]
theorem fail_err (s : RJ) (e : Nat) (h : s.err ≠ 0) : s.fail e = s := by unfold RJ.fail; rw [if_neg h]
theorem fail_zero (s : RJ) (e : Nat) (h : s.err = 0) : (s.fail e).err = e := by unfold RJ.fail; rw [if_pos h]
theorem val_err (n : Nat) (s : RJ) (h : s.err ≠ 0) : (valS n s).2 = s := by
  cases n with
  | zero => exact fail_err s 13 h
  | succ n =>
    have hh : hereS s = (0, s) := by unfold hereS; rw [if_pos h]
    have hr : roomS s = s := by
      unfold roomS
      rw [hh]
      simp only
      rw [if_neg fun e => h e.1]
    show (valueS (valS n) s).2 = s
    unfold valueS
    rw [hr, if_pos h]
theorem isC_iff (s : RJ) (c : UInt8) : isC s c = true ↔ s.at_ < s.b.length ∧ s.b.getD s.at_ default = c := by
  unfold isC
  rw [Bool.and_eq_true, decide_eq_true_eq, decide_eq_true_eq]
theorem here_blank (s : RJ) (h : s.err = 0) : (hereS s).2 = blankS s := by
  unfold hereS blankS
  rw [if_neg (by simpa using h)]
  split <;> rfl
theorem here_is (s : RJ) (h : s.err = 0) (c : UInt8) (hc : c ≠ 0) : (hereS s).1 = c ↔ isC (blankS s) c = true := by
  rw [isC_iff]
  unfold hereS blankS
  rw [if_neg (by simpa using h)]
  simp only
  split
  · rename_i hl
    simp only
    exact ⟨fun e => ⟨hl, e⟩, fun e => e.2⟩
  · rename_i hl
    simp only
    exact ⟨fun e => (hc e.symm).elim, fun e => (hl e.1).elim⟩
theorem sign_blank (s : RJ) (h : s.err = 0) (c : UInt8) (hc : c ≠ 0) : signS s c = if isC (blankS s) c = true then (true, { blankS s with at_ := (blankS s).at_ + 1 }) else (false, blankS s) := by
  have h1 := here_is s h c hc
  have h2 := here_blank s h
  unfold signS
  rw [h2]
  by_cases hi : isC (blankS s) c = true
  · have hl := (isC_iff _ _).1 hi
    rw [if_pos hi, if_neg]
    rintro (e | e | e)
    · exact e (h1.2 hi)
    · exact e h
    · omega
  · rw [if_neg hi, if_pos (.inl fun e => hi (h1.1 e))]
theorem word_one (s : RJ) (c : UInt8) : wordC s [c] = if isC s c = true then (true, { s with at_ := s.at_ + 1 }) else (false, s) := by
  unfold wordC
  rw [wordP_one]
  unfold isP
  by_cases hi : isC s c = true
  · have hl := (isC_iff _ _).1 hi
    rw [if_pos hi, if_pos ⟨hl.1, by rw [hl.2]; exact List.mem_singleton.2 rfl⟩]
  · rw [if_neg hi, if_neg fun e => hi ((isC_iff _ _).2 ⟨e.1, List.mem_singleton.1 e.2⟩)]
theorem nextAt_idem (b : List UInt8) : ∀ (k i : Nat), b.length - i ≤ k → nextAt b (nextAt b i) = nextAt b i
  | 0, i, h => by rw [nextAt_end b i (by omega), nextAt_end b i (by omega)]
  | k + 1, i, h => by
    by_cases hl : b.length ≤ i
    · rw [nextAt_end b i hl, nextAt_end b i hl]
    · by_cases hb : blank (b.getD i default) = true
      · rw [nextAt_step b i (by omega) hb]
        exact nextAt_idem b k (i + 1) (by omega)
      · rw [nextAt_stop b i (by omega) (by simpa using hb), nextAt_stop b i (by omega) (by simpa using hb)]
theorem blank_blank (s : RJ) : blankS (blankS s) = blankS s := by
  show ({ s with at_ := nextAt s.b (nextAt s.b s.at_) } : RJ) = { s with at_ := nextAt s.b s.at_ }
  rw [nextAt_idem s.b _ s.at_ (Nat.le_refl _)]
/-- Texts: the two readers agree. -/
theorem tx_agr (b : List UInt8) : ∀ (n i : Nat) (out : List UInt8), i ≤ b.length → (txC b n i out).2.1 = (txR b n i out).2.1 ∧ ((txC b n i out).2.1 = true → txC b n i out = txR b n i out)
  | 0, i, out, _ => ⟨rfl, fun _ => rfl⟩
  | n + 1, i, out, hi => by
    unfold txC txR
    by_cases h1 : b.length ≤ i
    · rw [if_pos h1, if_pos h1]; exact ⟨rfl, fun h => by cases h⟩
    rw [if_neg h1, if_neg h1]
    by_cases h34 : b.getD i default = 34
    · have h32 : ¬ (b.getD i default).toNat < 32 := by rw [h34]; decide
      rw [if_pos h34, if_neg h32, if_pos h34]
      exact ⟨rfl, fun _ => rfl⟩
    rw [if_neg h34]
    by_cases h32 : (b.getD i default).toNat < 32
    · rw [if_pos h32, if_pos h32]; exact ⟨rfl, fun h => by cases h⟩
    rw [if_neg h32, if_neg h32, if_neg h34]
    by_cases h92 : b.getD i default = 92
    · rw [if_pos h92, if_neg (show ¬ b.getD i default ≠ 92 from fun h => h h92)]
      have hep := escR_pos b i (by omega)
      by_cases h1' : b.length ≤ i + 1
      · have he : escR b i = (0, false, i) := by unfold escR; rw [if_pos h1']
        rw [he, if_pos h1']
        simp only [Bool.false_eq_true, if_false]
        exact ⟨trivial, fun h => h.elim⟩
      rw [if_neg h1']
      unfold escR at hep ⊢
      simp only [if_neg h1'] at hep ⊢
      cases hk : idxB escFrom (b.getD (i + 1) default) with
      | some k =>
        rw [hk] at hep
        simp only [if_true] at hep ⊢
        have ht := escTo_lt k
        have he : encB ((escTo.getD k default).toNat : Int).toNat = [escTo.getD k default] := by
          rw [Int.toNat_natCast]
          unfold encB
          rw [if_pos ht, UInt8.ofNat_toNat]
        rw [he]
        exact tx_agr b n (i + 2) _ hep.2
      | none =>
        rw [hk] at hep
        simp only at hep ⊢
        by_cases h117 : b.getD (i + 1) default ≠ 117
        · rw [if_pos h117, if_pos h117]
          simp only [Bool.false_eq_true, if_false]
          exact ⟨trivial, fun h => h.elim⟩
        rw [if_neg h117] at hep
        rw [if_neg h117, if_neg h117]
        cases hu : unitP b (i + 2) with
        | none =>
          simp only [Bool.false_eq_true, if_false]
          exact ⟨trivial, fun h => h.elim⟩
        | some x =>
          rw [hu] at hep
          simp only at hep ⊢
          have hx := unitP_lt hu
          by_cases h55 : x / 1024 = 55
          · rw [if_pos h55, if_pos (show 56320 ≤ x ∧ x ≤ 57343 by omega)]
            simp only [Bool.false_eq_true, if_false]
            exact ⟨trivial, fun h => h.elim⟩
          rw [if_neg h55] at hep
          rw [if_neg h55, if_neg (show ¬ (56320 ≤ x ∧ x ≤ 57343) by omega)]
          by_cases h54 : x / 1024 ≠ 54
          · rw [if_pos h54] at hep
            rw [if_pos h54, if_pos (show ¬ (55296 ≤ x ∧ x ≤ 56319) by omega)]
            simp only [if_true, Int.toNat_natCast]
            exact tx_agr b n (i + 6) _ hep.2
          rw [if_neg h54] at hep
          rw [if_neg h54, if_neg (show ¬ ¬ (55296 ≤ x ∧ x ≤ 56319) by omega)]
          have hwi : (wordP b (i + 6) [92, 117]).1 = true ↔ ¬ (b.length < i + 8 ∨ b.getD (i + 6) default ≠ 92 ∨ b.getD (i + 7) default ≠ 117) := by
            unfold wordP
            by_cases hl : i + 8 ≤ b.length
            · have e1 : b.drop (i + 6) = b.getD (i + 6) default :: b.getD (i + 7) default :: b.drop (i + 8) := by
                rw [drop_at b (i + 6) (by omega), drop_at b (i + 6 + 1) (by omega)]
              rw [e1]
              simp only [List.length_cons, List.length_nil, List.take_succ_cons, List.take_zero, List.cons.injEq, and_true]
              by_cases ha : b.getD (i + 6) default = 92 ∧ b.getD (i + 7) default = 117
              · rw [if_pos ha]
                simp only [true_iff, not_or, Nat.not_lt, ne_eq, Classical.not_not]
                exact ⟨hl, ha⟩
              · rw [if_neg ha]
                simp only [Bool.false_eq_true, false_iff, Classical.not_not]
                by_cases h6 : b.getD (i + 6) default = 92
                · exact .inr (.inr fun h7 => ha ⟨h6, h7⟩)
                · exact .inr (.inl h6)
            · rw [if_neg fun e => by
                have := congrArg List.length e
                simp only [List.length_take, List.length_drop, List.length_cons, List.length_nil] at this
                omega]
              simp only [Bool.false_eq_true, false_iff, Classical.not_not]
              exact .inl (by omega)
          by_cases hs : b.length < i + 8 ∨ b.getD (i + 6) default ≠ 92 ∨ b.getD (i + 7) default ≠ 117
          · have hw : (wordP b (i + 6) [92, 117]).1 = false := by
              rw [← Bool.not_eq_true]; exact fun h => hwi.1 h hs
            rw [if_pos hs, if_pos (show (wordP b (i + 6) [92, 117]).1 = false from hw)]
            simp only [Bool.false_eq_true, if_false]
            exact ⟨trivial, fun h => h.elim⟩
          have hw : (wordP b (i + 6) [92, 117]).1 = true := hwi.2 hs
          rw [if_neg hs] at hep
          rw [if_neg hs, if_neg (show ¬ (wordP b (i + 6) [92, 117]).1 = false by rw [hw]; decide)]
          cases hu2 : unitP b (i + 8) with
          | none =>
            simp only [Bool.false_eq_true, if_false]
            exact ⟨trivial, fun h => h.elim⟩
          | some y =>
            rw [hu2] at hep
            simp only at hep ⊢
            have hy := unitP_lt hu2
            by_cases h55y : y / 1024 = 55
            · rw [decide_eq_true h55y, if_neg (show ¬ (y < 56320 ∨ 57343 < y) by omega)]
              simp only [if_true]
              have ez : (65536 + ((x : Int) - 55296) * 1024 + (y : Int) - 56320).toNat = 65536 + (x - 55296) * 1024 + y - 56320 := by omega
              rw [ez]
              exact tx_agr b n (i + 12) _ hep.2
            · rw [decide_eq_false h55y, if_pos (show y < 56320 ∨ 57343 < y by omega)]
              simp only [Bool.false_eq_true, if_false]
              exact ⟨trivial, fun h => h.elim⟩
    · rw [if_neg h92, if_pos h92]
      have hne : b.drop i ≠ [] := fun h => by have := congrArg List.length h; rw [List.length_drop] at this; simp only [List.length_nil] at this; omega
      have hd := decL_pos _ hne
      rw [List.length_drop] at hd
      by_cases hb : (Go.Lib.decodeL (b.drop i)).1 = 65533 ∧ (Go.Lib.decodeL (b.drop i)).2 < 2
      · rw [if_pos hb, if_pos ⟨hb.1, by omega⟩]
        exact ⟨rfl, fun h => by cases h⟩
      · rw [if_neg hb, if_neg fun h => hb ⟨h.1, by omega⟩]
        exact tx_agr b n _ _ (by omega)
end Go.Proofs.YtfemncfhiihckaaDoor
