/- What is read is written as the bytes that were read: plain. -/
import Derived.Test.YtijcpdgfbboamaaDoorVsDWrS
import Derived.Test.YtijcpdgfbboamaaDoorVsDOk
import Derived.Test.YtijcpdgfbboamaaDoorVsCOneW
open Go Go.VS
namespace Go.Proofs.YtijcpdgfbboamaaDoor
set_option linter.unusedVariables false
set_option linter.unusedSimpArgs false
set_option maxRecDepth 20000
set_option maxHeartbeats 4000000
theorem acc_bits (f : UInt8) : badF f = false → UInt8.ofNat (accF (bit f 1) (bit f 4) (bit f 64) (bit f 128) 4) = f :=
  all_u8 (p := fun f => badF f = false → UInt8.ofNat (accF (bit f 1) (bit f 4) (bit f 64) (bit f 128) 4) = f) (by decide +kernel) f
theorem fit_zero : Fit 8 CI.zero := ⟨⟨by decide, by decide, by decide, by decide, fun _ => rfl⟩, fun y hy => by cases hy⟩
theorem end_back {d d' : AD} {r : List UInt8} (h : endS d r = (d', 0)) : r = [] ∧ d' = d := by
  unfold endS at h
  split at h
  · rename_i hr; exact ⟨hr, (congrArg Prod.fst h).symm⟩
  · cases h
theorem ext_back {valid : List UInt8 → Bool} {f : UInt8} {d d' : AD} {r : List UInt8} (h : extS valid f d r = (d', 0)) (hz : d.exts = .zero) :
    ∃ x, d' = { d with exts := x } ∧ decide (x.k = 6) = bit f 128 ∧ Fit 8 x ∧ ∀ out, extW valid d' out = (out ++ r, 0) := by
  unfold extS at h
  by_cases hf : bit f 128 = true
  · rw [if_pos hf] at h
    have hfit := dec_fit valid r
    have hback := fun x l => @dec_back valid r x l
    generalize decS valid r = D at h hfit hback
    obtain ⟨x, o, e⟩ := D
    simp only at h hfit
    by_cases he : e = 0
    · subst he
      rw [if_neg (by simp)] at h
      obtain ⟨c, r', rfl, h1, h2⟩ := hback x o rfl
      by_cases ht : textsS x = false
      · rw [if_pos ht] at h; cases h
      rw [if_neg ht] at h
      have ht : textsS x = true := by simpa using ht
      obtain ⟨hr, hd⟩ := end_back h
      simp only [Option.getD_some] at hr
      subst hr
      simp only [textsS, Bool.and_eq_true, decide_eq_true_eq] at ht
      subst hd
      refine ⟨x, rfl, by rw [hf]; simpa using ht.1, hfit, fun out => ?_⟩
      unfold extW
      simp only
      rw [if_pos ht.1, h1, if_neg (by simp), if_neg (by simp [ht.2]), ← h2]
      simp
    · rw [if_pos he] at h
      exact absurd (congrArg Prod.snd h) he
  · rw [if_neg hf] at h
    obtain ⟨hr, hd⟩ := end_back h
    subst hd
    subst hr
    refine ⟨d'.exts, rfl, ?_, by rw [hz]; exact fit_zero, fun out => ?_⟩
    · rw [hz]
      have : bit f 128 = false := by simpa using hf
      rw [this]
      rfl
    · unfold extW
      rw [hz, if_neg (by decide)]
      simp
theorem auth_back {valid : List UInt8 → Bool} {b : List UInt8} {d : AD} (hl : b.length ≤ 100000) (h : authS valid b = (d, 0)) : writeS valid d = (b, 0) ∧ d.Wr := by
  by_cases h37 : b.length < 37
  · have e : authS valid b = (.zero, 60) := by unfold authS; rw [if_pos (.inl h37)]
    rw [e] at h
    exact absurd (congrArg Prod.snd h) (show ¬ (60 : Nat) = 0 by decide)
  obtain ⟨hs, f, c0, c1, c2, c3, r, hlen, rfl⟩ := cut32 b (by omega)
  rw [authS_cut valid hlen] at h
  by_cases hb : badF f = true
  · rw [if_pos hb] at h; exact absurd (congrArg Prod.snd h) (show ¬ (60 : Nat) = 0 by decide)
  rw [if_neg hb] at h
  have hb : badF f = false := by simpa using hb
  have hacc := acc_bits f hb
  have hkb := kb_be c0 c1 c2 c3
  have hbe : be [c0, c1, c2, c3] < 4294967296 := Nat.lt_of_lt_of_le (be_lt [c0, c1, c2, c3]) (by simp)
  by_cases hf : bit f 64 = true
  · by_cases h18 : r.length < 18
    · have e : ∀ d, heldS valid f d r = (.zero, 60) := fun d => by unfold heldS; rw [if_pos hf, if_pos h18]
      rw [e] at h
      exact absurd (congrArg Prod.snd h) (show ¬ (60 : Nat) = 0 by decide)
    obtain ⟨ms, n0, n1, q, mlen, rfl⟩ := cut16 r (by omega)
    rw [heldS_cut valid f _ mlen n0 n1 q hf _ rfl] at h
    obtain ⟨N, hN⟩ : ∃ N, n0.toNat * 256 + n1.toNat = N := ⟨_, rfl⟩
    rw [hN] at h
    by_cases hn : N < 1 ∨ 128 < N ∨ q.length < N
    · rw [if_pos hn] at h; exact absurd (congrArg Prod.snd h) (show ¬ (60 : Nat) = 0 by decide)
    rw [if_neg hn] at h
    have hfit := dec_fit valid (q.drop N)
    have hback := fun x l => @dec_back valid (q.drop N) x l
    generalize decS valid (q.drop N) = D at h hfit hback
    obtain ⟨k, o, e⟩ := D
    simp only at h hfit
    by_cases he : e = 0
    · subst he
      rw [if_neg (by simp)] at h
      obtain ⟨c, r', rfl, g1, g2⟩ := hback k o rfl
      obtain ⟨x, hd, hx, hxf, hw⟩ := ext_back h rfl
      have hcl : (q.take N).length = N := by rw [List.length_take]; omega
      have hlb : lenB N = [n0, n1] := by
        have a0 := n0.toNat_lt
        have a1 := n1.toNat_lt
        have q0 : ∀ (c : UInt8) (n : Nat), n % 256 = c.toNat → UInt8.ofNat n = c := fun c n h => by
          apply UInt8.toNat_inj.1
          simp [h]
        unfold lenB
        rw [q0 n0 _ (by omega), q0 n1 _ (by omega)]
      subst hd
      refine ⟨?_, ⟨hlen, mlen, hbe, (fun h => by cases h), by rw [hcl]; omega, hfit, hxf⟩⟩
      unfold writeS
      rw [if_pos hf, if_neg (by simp only [hcl]; omega), g1, if_neg (by simp)]
      rw [hw]
      have e1 : headD { hs := hs, p := bit f 1, v := bit f 4, h := bit f 64, cnt := be [c0, c1, c2, c3], ms := ms, cn := false, cred := q.take N, key := k, exts := x } = hs ++ f :: [c0, c1, c2, c3] := by
        unfold headD
        simp only
        rw [hx, hacc, hkb]
      rw [e1]
      simp only [hcl, hlb]
      have e2 : q.take N ++ (c ++ r') = q := by rw [g2, List.take_append_drop]
      congr 1
      simp only [List.append_assoc, List.cons_append, List.nil_append, Option.getD_some, e2]
    · rw [if_pos he] at h
      exact absurd (congrArg Prod.snd h) he
  · have e : heldS valid f ⟨hs, bit f 1, bit f 4, bit f 64, be [c0, c1, c2, c3], z16, true, [], .zero, .zero⟩ r = extS valid f ⟨hs, bit f 1, bit f 4, bit f 64, be [c0, c1, c2, c3], z16, true, [], .zero, .zero⟩ r := by unfold heldS; rw [if_neg hf]
    rw [e] at h
    obtain ⟨x, hd, hx, hxf, hw⟩ := ext_back h rfl
    subst hd
    refine ⟨?_, ⟨hlen, rfl, hbe, fun _ => rfl, by simp, fit_zero, hxf⟩⟩
    unfold writeS
    rw [if_neg hf, hw]
    have e1 : headD { hs := hs, p := bit f 1, v := bit f 4, h := bit f 64, cnt := be [c0, c1, c2, c3], ms := z16, cn := true, cred := [], key := .zero, exts := x } = hs ++ f :: [c0, c1, c2, c3] := by
      unfold headD
      simp only
      rw [hx, hacc, hkb]
    rw [e1]
    congr 1
    simp only [List.append_assoc, List.cons_append, List.nil_append]
end Go.Proofs.YtijcpdgfbboamaaDoor
