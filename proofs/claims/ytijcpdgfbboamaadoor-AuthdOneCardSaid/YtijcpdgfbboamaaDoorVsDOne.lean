/- What is read is written as the bytes that were read; the law AuthdOne's code answers true. -/
import Derived.Test.YtijcpdgfbboamaaDoorVsDWrite2
import Derived.Test.YtijcpdgfbboamaaDoorVsDLaw
import Derived.Test.YtijcpdgfbboamaaDoorVsCOneW
open Go Go.VS
namespace Go.Proofs.YtijcpdgfbboamaaDoor
set_option linter.unusedVariables false
set_option linter.unusedSimpArgs false
set_option maxRecDepth 20000
set_option maxHeartbeats 4000000
theorem acc_bits (f : UInt8) : badF f = false → UInt8.ofNat (accF (bit f 1) (bit f 4) (bit f 64) (bit f 128) 4) = f :=
  all_u8 (p := fun f => badF f = false → UInt8.ofNat (accF (bit f 1) (bit f 4) (bit f 64) (bit f 128) 4) = f) (by decide +kernel) f
theorem fit_zero : Fit 8 CI.zero := ⟨⟨by decide, by decide, by decide, by decide, fun _ => rfl⟩, fun y hy => by cases hy⟩
theorem end_back {d d' : AD} {r : List UInt8} (h : endS d r = (d', 0)) : r = [] ∧ d' = d := by
  unfold endS at h
  split at h
  · rename_i hr; exact ⟨hr, (congrArg Prod.fst h).symm⟩
  · cases h
theorem ext_back {valid : List UInt8 → Bool} {f : UInt8} {d d' : AD} {r : List UInt8} (h : extS valid f d r = (d', 0)) (hz : d.exts = .zero) :
    ∃ x, d' = { d with exts := x } ∧ decide (x.k = 6) = bit f 128 ∧ Fit 8 x ∧ ∀ out, extW valid d' out = (out ++ r, 0) := by
  unfold extS at h
  by_cases hf : bit f 128 = true
  · rw [if_pos hf] at h
    have hfit := dec_fit valid r
    have hback := fun x l => @dec_back valid r x l
    generalize decS valid r = D at h hfit hback
    obtain ⟨x, o, e⟩ := D
    simp only at h hfit
    by_cases he : e = 0
    · subst he
      rw [if_neg (by simp)] at h
      obtain ⟨c, r', rfl, h1, h2⟩ := hback x o rfl
      by_cases ht : textsS x = false
      · rw [if_pos ht] at h; cases h
      rw [if_neg ht] at h
      have ht : textsS x = true := by simpa using ht
      obtain ⟨hr, hd⟩ := end_back h
      simp only [Option.getD_some] at hr
      subst hr
      simp only [textsS, Bool.and_eq_true, decide_eq_true_eq] at ht
      subst hd
      refine ⟨x, rfl, by rw [hf]; simpa using ht.1, hfit, fun out => ?_⟩
      unfold extW
      simp only
      rw [if_pos ht.1, h1, if_neg (by simp), if_neg (by simp [ht.2]), ← h2]
      simp
    · rw [if_pos he] at h
      exact absurd (congrArg Prod.snd h) he
  · rw [if_neg hf] at h
    obtain ⟨hr, hd⟩ := end_back h
    subst hd
    subst hr
    refine ⟨d'.exts, rfl, ?_, by rw [hz]; exact fit_zero, fun out => ?_⟩
    · rw [hz]
      have : bit f 128 = false := by simpa using hf
      rw [this]
      rfl
    · unfold extW
      rw [hz, if_neg (by decide)]
      simp
theorem auth_back {valid : List UInt8 → Bool} {b : List UInt8} {d : AD} (hl : b.length ≤ 100000) (h : authS valid b = (d, 0)) : writeS valid d = (b, 0) ∧ d.Wr := by
  by_cases h37 : b.length < 37
  · have e : authS valid b = (.zero, 60) := by unfold authS; rw [if_pos (.inl h37)]
    rw [e] at h
    exact absurd (congrArg Prod.snd h) (show ¬ (60 : Nat) = 0 by decide)
  obtain ⟨hs, f, c0, c1, c2, c3, r, hlen, rfl⟩ := cut32 b (by omega)
  rw [authS_cut valid hlen] at h
  by_cases hb : badF f = true
  · rw [if_pos hb] at h; exact absurd (congrArg Prod.snd h) (show ¬ (60 : Nat) = 0 by decide)
  rw [if_neg hb] at h
  have hb : badF f = false := by simpa using hb
  have hacc := acc_bits f hb
  have hkb := kb_be c0 c1 c2 c3
  have hbe : be [c0, c1, c2, c3] < 4294967296 := Nat.lt_of_lt_of_le (be_lt [c0, c1, c2, c3]) (by simp)
  by_cases hf : bit f 64 = true
  · by_cases h18 : r.length < 18
    · have e : ∀ d, heldS valid f d r = (.zero, 60) := fun d => by unfold heldS; rw [if_pos hf, if_pos h18]
      rw [e] at h
      exact absurd (congrArg Prod.snd h) (show ¬ (60 : Nat) = 0 by decide)
    obtain ⟨ms, n0, n1, q, mlen, rfl⟩ := cut16 r (by omega)
    rw [heldS_cut valid f _ mlen n0 n1 q hf _ rfl] at h
    obtain ⟨N, hN⟩ : ∃ N, n0.toNat * 256 + n1.toNat = N := ⟨_, rfl⟩
    rw [hN] at h
    by_cases hn : N < 1 ∨ 128 < N ∨ q.length < N
    · rw [if_pos hn] at h; exact absurd (congrArg Prod.snd h) (show ¬ (60 : Nat) = 0 by decide)
    rw [if_neg hn] at h
    have hfit := dec_fit valid (q.drop N)
    have hback := fun x l => @dec_back valid (q.drop N) x l
    generalize decS valid (q.drop N) = D at h hfit hback
    obtain ⟨k, o, e⟩ := D
    simp only at h hfit
    by_cases he : e = 0
    · subst he
      rw [if_neg (by simp)] at h
      obtain ⟨c, r', rfl, g1, g2⟩ := hback k o rfl
      obtain ⟨x, hd, hx, hxf, hw⟩ := ext_back h rfl
      have hcl : (q.take N).length = N := by rw [List.length_take]; omega
      have hlb : lenB N = [n0, n1] := by
        have a0 := n0.toNat_lt
        have a1 := n1.toNat_lt
        have q0 : ∀ (c : UInt8) (n : Nat), n % 256 = c.toNat → UInt8.ofNat n = c := fun c n h => by
          apply UInt8.toNat_inj.1
          simp [h]
        unfold lenB
        rw [q0 n0 _ (by omega), q0 n1 _ (by omega)]
      subst hd
      refine ⟨?_, ⟨hlen, mlen, hbe, (fun h => by cases h), by rw [hcl]; omega, hfit, hxf⟩⟩
      unfold writeS
      rw [if_pos hf, if_neg (by simp only [hcl]; omega), g1, if_neg (by simp)]
      rw [hw]
      have e1 : headD { hs := hs, p := bit f 1, v := bit f 4, h := bit f 64, cnt := be [c0, c1, c2, c3], ms := ms, cn := false, cred := q.take N, key := k, exts := x } = hs ++ f :: [c0, c1, c2, c3] := by
        unfold headD
        simp only
        rw [hx, hacc, hkb]
      rw [e1]
      simp only [hcl, hlb]
      have e2 : q.take N ++ (c ++ r') = q := by rw [g2, List.take_append_drop]
      congr 1
      simp only [List.append_assoc, List.cons_append, List.nil_append, Option.getD_some, e2]
    · rw [if_pos he] at h
      exact absurd (congrArg Prod.snd h) he
  · have e : heldS valid f ⟨hs, bit f 1, bit f 4, bit f 64, be [c0, c1, c2, c3], z16, true, [], .zero, .zero⟩ r = extS valid f ⟨hs, bit f 1, bit f 4, bit f 64, be [c0, c1, c2, c3], z16, true, [], .zero, .zero⟩ r := by unfold heldS; rw [if_neg hf]
    rw [e] at h
    obtain ⟨x, hd, hx, hxf, hw⟩ := ext_back h rfl
    subst hd
    refine ⟨?_, ⟨hlen, rfl, hbe, fun _ => rfl, by simp, fit_zero, hxf⟩⟩
    unfold writeS
    rw [if_neg hf, hw]
    have e1 : headD { hs := hs, p := bit f 1, v := bit f 4, h := bit f 64, cnt := be [c0, c1, c2, c3], ms := z16, cn := true, cred := [], key := .zero, exts := x } = hs ++ f :: [c0, c1, c2, c3] := by
      unfold headD
      simp only
      rw [hx, hacc, hkb]
    rw [e1]
    congr 1
    simp only [List.append_assoc, List.cons_append, List.nil_append]
def k16_VsDOne : List Nat := [0,1,2,4,6,7,8,9,10,11,13,16,29]
attribute [go_sem] k16_VsDOne
theorem f16_ok (nb : Bool) (b : List UInt8) (hnb : nb = true → b = []) (hash : List UInt8) (hh : hash.length = 32) (fl : UInt8) :
    CallsP Tryd.prog 16 [.sl none nb 1 (b.map u8), .agg (hash.map u8), .int .u8 (fl.toNat : Int)] (.bool true) := by
  have c22 := f22_ok valid_ok
  have hl2 : (hash.map u8).length = 32 := by rw [List.length_map]; exact hh
  have hta : List.take 32 hash = hash := List.take_of_length_le (by omega)
  by_cases hbl : 5000 < b.length
  · refine CallsP.intro Tryd.func16 rfl (by show 3 ≤ 44; decide) ?_
    rintro X hX
    have hn : X.n = 44 := hX
    unfold Tryd.f16
    dsimp only
    rw [entry3]
    repeat' first
     | with_reducible refine Rl.go (by constructor <;> decide) ?_
     | ((with_reducible first | refine hK _ ?_ | refine hK.1 ?_ | refine hK.2 ?_); clear hK K)
     | ((with_reducible refine condS hK (fun hg => ?_) fun hg => ?_) <;> clear hK K <;> (try simp only [hgW] at hg) <;> try (exfalso; omega))
     | ((first | ((with_reducible first | refine Rk.go k16_VsDOne (by constructor) ?_); intro K hK) | with_reducible refine Rr.go [] (by constructor) ?_ | (with_reducible refine guardP_split (fun hg => ?_) fun hg => ?_) <;> (try simp only [hg]) <;> (try simp only [hgW] at hg) | refine Rc.go c22 (by constructor) ?_) <;> simp -implicitDefEqProofs only [hl2, hh, Int.cast_ofNat_Int, hn, go_sem, simprocAttr] <;> try (simp (disch := omega) only [wrW]; try simp -implicitDefEqProofs only [hl2, hh, Int.cast_ofNat_Int, hn, go_sem, simprocAttr]))
     | with_reducible refine And.intro (by first | omega | (simp only [hgW]; omega)) ?_
     | (exfalso; omega)
  have hxl : (hash ++ fl :: b).length ≤ 100000 := by simp [hh]; omega
  have c24 := f24_ok valid_ok false (hash ++ fl :: b) (fun h => by cases h) hxl
  have hok := authS_ok Go.Lib.validD (hash ++ fl :: b)
  have hback := fun d => @auth_back Go.Lib.validD (hash ++ fl :: b) d hxl
  obtain ⟨A, hA⟩ : ∃ A, authS Go.Lib.validD (hash ++ fl :: b) = A := ⟨_, rfl⟩
  rw [hA] at c24 hok hback
  rw [List.map_append, List.map_cons] at c24
  obtain ⟨d, err⟩ := A
  by_cases he : err = 0
  · subst he
    obtain ⟨hw, hwr⟩ := hback d rfl
    have c30 := f30_ok validI d hwr
    rw [hw] at c30
    obtain ⟨hs, p, v, h, cnt, ms, cn, cred, key, exts⟩ := d
    obtain ⟨h1, h2, _, _⟩ := hok
    simp only at h1 h2
    obtain ⟨kk, kn, kbn, kb', kkn, kks⟩ := key
    obtain ⟨xk, xn, xbn, xb, xkn, xks⟩ := exts
    have hl3 : (hs.map u8).length = 32 := by rw [List.length_map]; exact h1
    have ml3 : (ms.map u8).length = 16 := by rw [List.length_map]; exact h2
    have ht1 := ap_take hl3
    have hd1 := ap_drop hl3
    have ht2 := ap_take ml3
    have hd2 := ap_drop ml3
    have hby : VS.bytesOf (hash.map u8 ++ .int .u8 (fl.toNat : Int) :: b.map u8) = some (hash ++ fl :: b) := by
      have := VS.bytesOf_u8 (hash ++ fl :: b)
      rw [List.map_append, List.map_cons] at this
      exact this
    have hby2 := VS.bytesOf_u8 (hash ++ fl :: b)
    simp only [AD.av, AD.cells, cs_mk, List.cons_append, List.nil_append, outAV, List.map_append, List.map_cons] at c24 c30
    refine CallsP.intro Tryd.func16 rfl (by show 3 ≤ 44; decide) ?_
    rintro X hX
    have hn : X.n = 44 := hX
    unfold Tryd.f16
    dsimp only
    rw [entry3]
    repeat' first
     | with_reducible refine Rl.go (by constructor <;> decide) ?_
     | ((with_reducible first | refine hK _ ?_ | refine hK.1 ?_ | refine hK.2 ?_); clear hK K)
     | ((with_reducible refine condS hK (fun hg => ?_) fun hg => ?_) <;> clear hK K <;> (try simp only [hgW] at hg) <;> try (exfalso; omega))
     | ((with_reducible first | refine callE_PE c24 ?_ | refine callP_PE c24 ?_); simp -implicitDefEqProofs only [eqOk_true, List.append_assoc, u8, hby, hl2, hh, hta, h1, h2, hl3, ml3, ht1, hd1, ht2, hd2, Int.cast_ofNat_Int, hn, go_sem, simprocAttr]; (skip; try (simp (disch := omega) only [wrW]; try simp -implicitDefEqProofs only [List.append_assoc, u8, hby, hl2, hh, hta, h1, h2, hl3, ml3, ht1, hd1, ht2, hd2, Int.cast_ofNat_Int, hn, go_sem, simprocAttr])); fail_if_success (with_reducible refine eqOk_mk ?_))
     | ((with_reducible first | refine callE_PE c30 ?_ | refine callP_PE c30 ?_); simp -implicitDefEqProofs only [eqOk_true, List.append_assoc, u8, hby, hl2, hh, hta, h1, h2, hl3, ml3, ht1, hd1, ht2, hd2, Int.cast_ofNat_Int, hn, go_sem, simprocAttr]; (skip; try (simp (disch := omega) only [wrW]; try simp -implicitDefEqProofs only [List.append_assoc, u8, hby, hl2, hh, hta, h1, h2, hl3, ml3, ht1, hd1, ht2, hd2, Int.cast_ofNat_Int, hn, go_sem, simprocAttr])); fail_if_success (with_reducible refine eqOk_mk ?_))
     | ((first | ((with_reducible first | refine Rk.go k16_VsDOne (by constructor) ?_); intro K hK) | with_reducible refine Rr.go [] (by constructor) ?_ | (with_reducible refine guardP_split (fun hg => ?_) fun hg => ?_) <;> (try simp only [hg]) <;> (try simp only [hgW] at hg) | refine Rc.go c22 (by constructor) ?_) <;> simp -implicitDefEqProofs only [List.append_assoc, u8, hby, hl2, hh, hta, h1, h2, hl3, ml3, ht1, hd1, ht2, hd2, Int.cast_ofNat_Int, hn, go_sem, simprocAttr] <;> try (simp (disch := omega) only [wrW]; try simp -implicitDefEqProofs only [List.append_assoc, u8, hby, hl2, hh, hta, h1, h2, hl3, ml3, ht1, hd1, ht2, hd2, Int.cast_ofNat_Int, hn, go_sem, simprocAttr]))
     | with_reducible refine And.intro (by first | omega | (simp only [hgW]; omega)) ?_
     | (exfalso; omega)
    all_goals trace_state
  · obtain ⟨hs, p, v, h, cnt, ms, cn, cred, key, exts⟩ := d
    obtain ⟨h1, h2, _, _⟩ := hok
    simp only at h1 h2
    obtain ⟨kk, kn, kbn, kb', kkn, kks⟩ := key
    obtain ⟨xk, xn, xbn, xb, xkn, xks⟩ := exts
    have hl3 : (hs.map u8).length = 32 := by rw [List.length_map]; exact h1
    have ml3 : (ms.map u8).length = 16 := by rw [List.length_map]; exact h2
    have ht1 := ap_take hl3
    have hd1 := ap_drop hl3
    have ht2 := ap_take ml3
    have hd2 := ap_drop ml3
    simp only [AD.av, AD.cells, cs_mk, List.cons_append, List.nil_append] at c24
    refine CallsP.intro Tryd.func16 rfl (by show 3 ≤ 44; decide) ?_
    rintro X hX
    have hn : X.n = 44 := hX
    unfold Tryd.f16
    dsimp only
    rw [entry3]
    repeat' first
     | with_reducible refine Rl.go (by constructor <;> decide) ?_
     | ((with_reducible first | refine hK _ ?_ | refine hK.1 ?_ | refine hK.2 ?_); clear hK K)
     | ((with_reducible refine condS hK (fun hg => ?_) fun hg => ?_) <;> clear hK K <;> (try simp only [hgW] at hg) <;> try (exfalso; omega))
     | ((with_reducible first | refine callE_PE c24 ?_ | refine callP_PE c24 ?_); simp -implicitDefEqProofs only [eqOk_true, List.append_assoc, he, u8, hl2, hh, hta, h1, h2, hl3, ml3, ht1, hd1, ht2, hd2, Int.cast_ofNat_Int, hn, go_sem, simprocAttr]; (skip; try (simp (disch := omega) only [wrW]; try simp -implicitDefEqProofs only [List.append_assoc, he, u8, hl2, hh, hta, h1, h2, hl3, ml3, ht1, hd1, ht2, hd2, Int.cast_ofNat_Int, hn, go_sem, simprocAttr])); fail_if_success (with_reducible refine eqOk_mk ?_))
     | ((first | ((with_reducible first | refine Rk.go k16_VsDOne (by constructor) ?_); intro K hK) | with_reducible refine Rr.go [] (by constructor) ?_ | (with_reducible refine guardP_split (fun hg => ?_) fun hg => ?_) <;> (try simp only [hg]) <;> (try simp only [hgW] at hg) | refine Rc.go c22 (by constructor) ?_) <;> simp -implicitDefEqProofs only [List.append_assoc, he, u8, hl2, hh, hta, h1, h2, hl3, ml3, ht1, hd1, ht2, hd2, Int.cast_ofNat_Int, hn, go_sem, simprocAttr] <;> try (simp (disch := omega) only [wrW]; try simp -implicitDefEqProofs only [List.append_assoc, he, u8, hl2, hh, hta, h1, h2, hl3, ml3, ht1, hd1, ht2, hd2, Int.cast_ofNat_Int, hn, go_sem, simprocAttr]))
     | with_reducible refine And.intro (by first | omega | (simp only [hgW]; omega)) ?_
     | (exfalso; omega)
    all_goals trace_state
end Go.Proofs.YtijcpdgfbboamaaDoor
