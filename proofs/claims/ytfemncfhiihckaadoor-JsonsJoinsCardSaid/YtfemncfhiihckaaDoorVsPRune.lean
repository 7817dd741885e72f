/- A rune's bytes are read as the rune; a text's signs that stand for themselves. -/
import Derived.Test.YtfemncfhiihckaaDoorVsMText
import Derived.Test.YtfemncfhiihckaaDoorVsJVal3
open Go Go.VS
namespace Go.Proofs.YtfemncfhiihckaaDoor
set_option linter.unusedVariables false
set_option linter.unusedSimpArgs false
set_option maxRecDepth 20000
set_option maxHeartbeats 4000000
theorem dec_rune (l : List UInt8) : ¬ (55296 ≤ (Go.Lib.decodeL l).1 ∧ (Go.Lib.decodeL l).1 < 57344) := by
  rw [Go.Lib.decodeL_N]
  have h0 := (l.getD 0 0).toNat_lt
  unfold Go.Lib.decodeN
  repeat' split
  all_goals simp only
  all_goals omega
theorem ofN (n : Nat) (h : n < 256) : (UInt8.ofNat n).toNat = n := by
  rw [UInt8.toNat_ofNat']; omega
theorem dec_enc (x : Nat) (hx : x < 1114112) (hs : ¬ (55296 ≤ x ∧ x < 57344)) (t : List UInt8) : Go.Lib.decodeL (encB x ++ t) = (x, (encB x).length) := by
  rw [Go.Lib.decodeL_N]
  unfold encB
  split
  · simp only [List.cons_append, List.nil_append, List.getD_cons_zero, ofN x (by omega)]
    unfold Go.Lib.decodeN
    rw [if_pos (by omega)]; rfl
  split
  · simp only [List.cons_append, List.nil_append, List.getD_cons_zero, List.getD_cons_succ, List.length_cons, ofN (192 + x / 64) (by omega), ofN (128 + x % 64) (by omega)]
    unfold Go.Lib.decodeN
    rw [if_neg (by omega), if_pos (by omega), if_pos (by omega)]
    congr 1 <;> simp <;> omega
  split
  · simp only [List.cons_append, List.nil_append, List.getD_cons_zero, List.getD_cons_succ, List.length_cons, ofN (224 + x / 4096) (by omega), ofN (128 + x / 64 % 64) (by omega), ofN (128 + x % 64) (by omega)]
    unfold Go.Lib.decodeN
    rw [if_neg (by omega), if_neg (by omega), if_pos (by omega), if_pos (by omega)]
    congr 1 <;> simp <;> omega
  · simp only [List.cons_append, List.nil_append, List.getD_cons_zero, List.getD_cons_succ, List.length_cons, ofN (240 + x / 262144) (by omega), ofN (128 + x / 4096 % 64) (by omega), ofN (128 + x / 64 % 64) (by omega), ofN (128 + x % 64) (by omega)]
    unfold Go.Lib.decodeN
    rw [if_neg (by omega), if_neg (by omega), if_neg (by omega), if_pos (by omega), if_pos (by omega)]
    congr 1 <;> simp <;> omega
theorem encode_eq (x : Nat) (hx : x < 1114112) (hs : ¬ (55296 ≤ x ∧ x < 57344)) : (Utf8.encode (x : Int)).data.toList = encB x := by
  have hv : Utf8.valid (x : Int) = true := by
    simp only [Utf8.valid, Bool.or_eq_true, Bool.and_eq_true, decide_eq_true_eq]
    omega
  unfold Utf8.encode encB
  simp only
  rw [hv, if_pos rfl, Int.toNat_natCast]
  by_cases h1 : x < 128
  · rw [if_pos h1, if_pos h1]
  rw [if_neg h1, if_neg h1]
  by_cases h2 : x < 2048
  · rw [if_pos h2, if_pos h2]
  rw [if_neg h2, if_neg h2]
  by_cases h3 : x < 65536
  · rw [if_pos h3, if_pos h3]
  rw [if_neg h3, if_neg h3]
/-- A rune that stands for itself. -/
def goodR (x : Nat) : Prop := x < 1114112 ∧ ¬ (55296 ≤ x ∧ x < 57344) ∧ 32 ≤ x ∧ x ≠ 34 ∧ x ≠ 92 ∧ x ≠ 65533
def Clean (p : List UInt8) : Prop := ∃ xs : List Nat, p = xs.flatMap encB ∧ ∀ x ∈ xs, goodR x
theorem plG_clean : ∀ (n : Nat) (out r : List UInt8), r.length ≤ n → Clean out → Clean (plG out r)
  | _, out, [], _, h => by rw [plG]; exact h
  | n + 1, out, c :: t, hn, h => by
    rw [plG]
    have hw := Go.Lib.decodeL_width (c :: t)
    refine plG_clean n _ _ (by simp only [List.length_drop, List.length_cons] at hn ⊢; omega) ?_
    unfold plStep
    split
    · rename_i hc
      obtain ⟨h1, h2, h3, h4, _⟩ := hc
      have hr := Go.Lib.decodeL_rune (c :: t)
      have hs := dec_rune (c :: t)
      rw [encode_eq _ (by omega) hs]
      obtain ⟨xs, rfl, hx⟩ := h
      refine ⟨xs ++ [(Go.Lib.decodeL (c :: t)).1], by simp, fun x hxm => ?_⟩
      rcases List.mem_append.1 hxm with hxm | hxm
      · exact hx x hxm
      · simp only [List.mem_singleton] at hxm
        subst hxm
        exact ⟨by omega, hs, h1, h2, h3, h4⟩
    · exact h
theorem plain_clean (s : List UInt8) : Clean (plainT s) := plG_clean s.length [] s (Nat.le_refl _) ⟨[], rfl, by simp⟩
/-- What a good rune's bytes begin with. -/
theorem enc_head (x : Nat) (h : goodR x) (t : List UInt8) : ∃ c r, encB x ++ t = c :: r ∧ c ≠ 34 ∧ ¬ c.toNat < 32 ∧ c ≠ 92 := by
  obtain ⟨h1, h2, h3, h4, h5, h6⟩ := h
  have ne : ∀ n : Nat, n < 256 → n ≠ 34 → n ≠ 92 → 32 ≤ n → (UInt8.ofNat n) ≠ 34 ∧ ¬ (UInt8.ofNat n).toNat < 32 ∧ (UInt8.ofNat n) ≠ 92 := fun n a b c d => by
    refine ⟨fun e => b ?_, by rw [ofN n a]; omega, fun e => c ?_⟩
    · have := congrArg UInt8.toNat e; rw [ofN n a] at this; exact this
    · have := congrArg UInt8.toNat e; rw [ofN n a] at this; exact this
  unfold encB
  split
  · exact ⟨_, _, rfl, ne x (by omega) h4 h5 h3⟩
  split
  · exact ⟨_, _, rfl, ne _ (by omega) (by omega) (by omega) (by omega)⟩
  split
  · exact ⟨_, _, rfl, ne _ (by omega) (by omega) (by omega) (by omega)⟩
  · exact ⟨_, _, rfl, ne _ (by omega) (by omega) (by omega) (by omega)⟩
theorem enc_pos (x : Nat) : 1 ≤ (encB x).length := by
  unfold encB
  (repeat' split) <;> simp
/-- A clean text is read as it is. -/
theorem tx_clean (b : List UInt8) (X : List UInt8) : ∀ (xs : List Nat) (n i : Nat) (out : List UInt8), (∀ x ∈ xs, goodR x) → b.drop i = xs.flatMap encB ++ 34 :: X → b.length < n + i →
    txC b n i out = (out ++ xs.flatMap encB, true, i + (xs.flatMap encB).length + 1)
  | xs, 0, i, out, _, hd, hn => by
    rw [List.drop_of_length_le (by omega)] at hd
    exact absurd (congrArg List.length hd) (by simp)
  | [], n + 1, i, out, _, hd, hn => by
    have hi : i < b.length := by
      rcases Nat.lt_or_ge i b.length with h | h
      · exact h
      · rw [List.drop_of_length_le h] at hd; exact absurd (congrArg List.length hd) (by simp)
    rw [drop_at b i hi] at hd
    simp only [List.flatMap_nil, List.nil_append, List.cons.injEq] at hd
    unfold txC
    rw [if_neg (by omega), if_pos hd.1]
    simp
  | x :: xs, n + 1, i, out, hg, hd, hn => by
    have hi : i < b.length := by
      rcases Nat.lt_or_ge i b.length with h | h
      · exact h
      · rw [List.drop_of_length_le h] at hd; exact absurd (congrArg List.length hd) (by simp)
    rw [List.flatMap_cons, List.append_assoc] at hd
    have hgx := hg x (by simp)
    obtain ⟨c, r, e1, e2, e3, e4⟩ := enc_head x hgx (xs.flatMap encB ++ 34 :: X)
    have hdec := dec_enc x hgx.1 hgx.2.1 (xs.flatMap encB ++ 34 :: X)
    have hp := enc_pos x
    have hc : b.getD i default = c := by
      have := hd
      rw [drop_at b i hi, e1] at this
      exact (List.cons.inj this).1
    unfold txC
    rw [if_neg (by omega), hc, if_neg e2, if_neg e3, if_neg e4, hd, hdec, if_neg (by simp only; exact fun h => hgx.2.2.2.2.2 h.1)]
    simp only
    rw [List.take_left' rfl, tx_clean b X xs n (i + (encB x).length) (out ++ encB x) (fun y hy => hg y (by simp [hy])) (by rw [← List.drop_drop, hd, List.drop_left' rfl]) (by omega)]
    rw [List.flatMap_cons, List.append_assoc, List.length_append]
    congr 2
    omega
end Go.Proofs.YtfemncfhiihckaaDoor
