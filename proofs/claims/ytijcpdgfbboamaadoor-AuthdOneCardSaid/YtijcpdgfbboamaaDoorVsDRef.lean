/- What the document's Data comes to, from the extensions on. -/
import Derived.Test.YtijcpdgfbboamaaDoorVsDParse
import Derived.Test.YtijcpdgfbboamaaDoorVsCRef8
open Go Go.VS
namespace Go.Proofs.YtijcpdgfbboamaaDoor
set_option linter.unusedVariables false
set_option linter.unusedSimpArgs false
set_option maxRecDepth 20000
set_option maxHeartbeats 4000000
def k42_VsDRef : List Nat := [0,1,2,3,6,11,20]
attribute [go_sem] k42_VsDRef
theorem f42_ok (i : CI) (hi : i.ks.length ≤ 10000) : CallsP Tryd.prog 42 [i.av] (.bool (textsS i)) := by
  obtain ⟨xk, xn, xbn, xb, xkn, xks⟩ := i
  simp only [CI.ks] at hi
  rw [av_mk']
  by_cases hk : xk = 6
  · subst hk
    have hts : textsS (.mk 6 xn xbn xb xkn xks) = keysFrom xks 0 := by simp [textsS, CI.k, CI.ks]
    rw [hts]
    obtain ⟨R, hR⟩ : ∃ R, keysFrom xks 0 = R := ⟨_, rfl⟩
    rw [hR]
    refine CallsP.intro Tryd.func42 rfl (by show 1 ≤ 21; decide) ?_
    rintro X hX
    have hn : X.n = 21 := hX
    unfold Tryd.f42
    dsimp only
    rw [entry1]
    repeat' first
     | with_reducible refine Rl.go (by constructor <;> decide) ?_
     | ((with_reducible first | refine hK _ ?_ | refine hK.1 ?_ | refine hK.2 ?_); clear hK K)
     | ((with_reducible refine condS hK (fun hg => ?_) fun hg => ?_) <;> clear hK K <;> (try simp only [hgW] at hg) <;> try (exfalso; omega))
     | ((first | ((with_reducible first | refine Rk.go k42_VsDRef (by constructor) ?_); intro K hK) | with_reducible refine Rr.go [] (by constructor) ?_ | (with_reducible refine guardP_split (fun hg => ?_) fun hg => ?_) <;> (try simp only [hg]) <;> (try simp only [hgW] at hg)) <;> simp -implicitDefEqProofs only [Int.cast_ofNat_Int, hn, go_sem, simprocAttr] <;> try (simp (disch := omega) only [wrW]; try simp -implicitDefEqProofs only [Int.cast_ofNat_Int, hn, go_sem, simprocAttr]))
     | with_reducible refine And.intro (by first | omega | (simp only [hgW]; omega)) ?_
     | (exfalso; omega)
    refine AWP.loopX [1, 2, 3] [] (fun i : Nat => St.mk (lk [(1, .ptr 1 0), (2, .bool false), (3, .int .i64 (i : Int))])
        (lkB [(1, [.int .u8 6, .int .u64 (xn : Int), .sl none xbn 1 (xb.map u8), .sl none xkn 4 (xks.map CI.av)])]) (hasS []) (hasS []) (hasN []) (lkR []))
      (fun i => i ≤ xks.length + 1 ∧ i % 2 = 0 ∧ keysFrom xks i = R) (fun i => xks.length + 2 - i) 0 ?_ ⟨by omega, rfl, hR⟩ ?_
    · simp -implicitDefEqProofs only [Int.cast_ofNat_Int, hn, go_sem, simprocAttr]
      try rfl
    rintro i ⟨h1, h0, h2⟩
    by_cases hi : xks.length ≤ i
    · rw [keysFrom_end _ _ hi] at h2
      subst h2
      repeat' first
       | with_reducible refine Rl.go (by constructor <;> decide) ?_
       | ((with_reducible first | refine hK _ ?_ | refine hK.1 ?_ | refine hK.2 ?_); clear hK K)
       | ((with_reducible refine condS hK (fun hg => ?_) fun hg => ?_) <;> clear hK K <;> (try simp only [hgW] at hg) <;> try (exfalso; omega))
       | ((first | ((with_reducible first | refine Rk.go k42_VsDRef (by constructor) ?_); intro K hK) | with_reducible refine Rr.go [] (by constructor) ?_ | (with_reducible refine guardP_split (fun hg => ?_) fun hg => ?_) <;> (try simp only [hg]) <;> (try simp only [hgW] at hg)) <;> simp -implicitDefEqProofs only [Int.cast_ofNat_Int, hn, go_sem, simprocAttr] <;> try (simp (disch := omega) only [wrW]; try simp -implicitDefEqProofs only [Int.cast_ofNat_Int, hn, go_sem, simprocAttr]))
       | with_reducible refine And.intro (by first | omega | (simp only [hgW]; omega)) ?_
       | (exfalso; omega)
    obtain ⟨y, hy⟩ : ∃ y, xks.getD i default = y := ⟨_, rfl⟩
    rw [keysFrom_step _ _ (by omega), hy] at h2
    obtain ⟨yk, yn, ybn, yb, ykn, yks⟩ := y
    simp only [CI.k] at h2
    have hev : ¬ i % 2 = 1 := by omega
    have e2 : (i : Int) + 2 = ((i + 2 : Nat) : Int) := by omega
    simp only [hev, decide_false, Bool.false_or] at h2
    by_cases h4 : yk = 4
    · subst h4
      simp only [decide_true, Bool.true_and] at h2
      have h3 : keysFrom xks (i + 2) = R := by
        by_cases hl : xks.length ≤ i + 1
        · rw [keysFrom_end _ _ hl] at h2
          rw [keysFrom_end _ _ (by omega)]; exact h2
        · rw [keysFrom_step _ _ (by omega)] at h2
          simpa [show (i + 1) % 2 = 1 by omega] using h2
      repeat' first
       | with_reducible refine Rl.go (by constructor <;> decide) ?_
       | ((with_reducible first | refine hK _ ?_ | refine hK.1 ?_ | refine hK.2 ?_); clear hK K)
       | ((with_reducible refine condS hK (fun hg => ?_) fun hg => ?_) <;> clear hK K <;> (try simp only [hgW] at hg) <;> try (exfalso; omega))
       | ((first | ((with_reducible first | refine Rk.go k42_VsDRef (by constructor) ?_); intro K hK) | with_reducible refine Rr.go [] (by constructor) ?_ | (with_reducible refine guardP_split (fun hg => ?_) fun hg => ?_) <;> (try simp only [hg]) <;> (try simp only [hgW] at hg)) <;> simp -implicitDefEqProofs only [hy, av_mk', Int.cast_ofNat_Int, hn, go_sem, simprocAttr] <;> try (simp (disch := omega) only [wrW]; try simp -implicitDefEqProofs only [hy, av_mk', Int.cast_ofNat_Int, hn, go_sem, simprocAttr]))
       | with_reducible refine And.intro (by first | omega | (simp only [hgW]; omega)) ?_
       | (exfalso; omega)
      refine ⟨i + 2, ?_, ⟨by omega, by omega, h3⟩, by omega⟩
      rw [e2]
      simp -implicitDefEqProofs only [Int.cast_ofNat_Int, hn, go_sem, simprocAttr]
      try rfl
    · have h4' : ¬ (yk : Int) = 4 := by omega
      simp only [h4, decide_false, Bool.false_and] at h2
      subst h2
      repeat' first
       | with_reducible refine Rl.go (by constructor <;> decide) ?_
       | ((with_reducible first | refine hK _ ?_ | refine hK.1 ?_ | refine hK.2 ?_); clear hK K)
       | ((with_reducible refine condS hK (fun hg => ?_) fun hg => ?_) <;> clear hK K <;> (try simp only [hgW] at hg) <;> try (exfalso; omega))
       | ((first | ((with_reducible first | refine Rk.go k42_VsDRef (by constructor) ?_); intro K hK) | with_reducible refine Rr.go [] (by constructor) ?_ | (with_reducible refine guardP_split (fun hg => ?_) fun hg => ?_) <;> (try simp only [hg]) <;> (try simp only [hgW] at hg)) <;> simp -implicitDefEqProofs only [hy, h4', av_mk', Int.cast_ofNat_Int, hn, go_sem, simprocAttr] <;> try (simp (disch := omega) only [wrW]; try simp -implicitDefEqProofs only [hy, h4', av_mk', Int.cast_ofNat_Int, hn, go_sem, simprocAttr]))
       | with_reducible refine And.intro (by first | omega | (simp only [hgW]; omega)) ?_
       | (exfalso; omega)
  · have hts : textsS (.mk xk xn xbn xb xkn xks) = false := by simp [textsS, CI.k, hk]
    rw [hts]
    have hk2 : ¬ (xk : Int) = 6 := by omega
    refine CallsP.intro Tryd.func42 rfl (by show 1 ≤ 21; decide) ?_
    rintro X hX
    have hn : X.n = 21 := hX
    unfold Tryd.f42
    dsimp only
    rw [entry1]
    repeat' first
     | with_reducible refine Rl.go (by constructor <;> decide) ?_
     | ((with_reducible first | refine hK _ ?_ | refine hK.1 ?_ | refine hK.2 ?_); clear hK K)
     | ((with_reducible refine condS hK (fun hg => ?_) fun hg => ?_) <;> clear hK K <;> (try simp only [hgW] at hg) <;> try (exfalso; omega))
     | ((first | ((with_reducible first | refine Rk.go k42_VsDRef (by constructor) ?_); intro K hK) | with_reducible refine Rr.go [] (by constructor) ?_ | (with_reducible refine guardP_split (fun hg => ?_) fun hg => ?_) <;> (try simp only [hg]) <;> (try simp only [hgW] at hg)) <;> simp -implicitDefEqProofs only [hk2, Int.cast_ofNat_Int, hn, go_sem, simprocAttr] <;> try (simp (disch := omega) only [wrW]; try simp -implicitDefEqProofs only [hk2, Int.cast_ofNat_Int, hn, go_sem, simprocAttr]))
     | with_reducible refine And.intro (by first | omega | (simp only [hgW]; omega)) ?_
     | (exfalso; omega)
def k37_VsDRef : List Nat := [0,2,3,4,5,7,8,9,10,11,12,13,14,15,16,17,18,19,22,29,30,31,32,39,56,67,83,86,90,123,139,148,156,161,169]
def a37_19_VsDRef : List Nat := [0,1,3,0,0,24,56,120,255,511,1023]
def o37_19_VsDRef : List Nat := [0,1,2,3,4,5,6,7,8,9,10]
def a37_28_VsDRef : List Nat := [0,1,3,7,15,0,32,96,224,511,1023]
def o37_28_VsDRef : List Nat := [0,1,2,3,4,5,6,7,8,9,10]
attribute [go_sem] k37_VsDRef a37_19_VsDRef o37_19_VsDRef a37_28_VsDRef o37_28_VsDRef
theorem tail37 (X : Ent) (hX : X.n = 173) {valid : List UInt8 → Bool} (hv : ValidOk valid) (f : UInt8) (hs ms : List UInt8) (hlen : hs.length = 32) (mlen : ms.length = 16) (p v h : Bool) (cnt : Nat) (cn : Bool) (cred : List UInt8) (kk kn : Nat) (kbn kkn : Bool) (kb : List UInt8) (kks : List CI) (nb : Bool) (r : List UInt8) (hnb : nb = true → r = []) (hl : r.length ≤ 100000) :
    AWP Tryd.prog X (tl (tl (tl (tl (tl (tl (tl (tl (tl (tl ((Tryd.f37.body).getD .skip))))))))))) (retSF Tryd.prog Tryd.f37.results.toList 0 (.tup [(extS valid f ⟨hs, p, v, h, cnt, ms, cn, cred, .mk kk kn kbn kb kkn kks, .zero⟩ r).1.av, .int .i64 ((extS valid f ⟨hs, p, v, h, cnt, ms, cn, cred, .mk kk kn kbn kb kkn kks, .zero⟩ r).2 : Int)]) [])
      (St.mk (lk [(2, .ptr 2 0), (3, .int .i64 0), (4, .int .i64 60), (5, .int .i64 (f.toNat : Int)), (8, .ptr 8 0), (11, .sl none nb 1 (r.map u8))])
        (lkB [(2, zAD), (8, hs.map u8 ++ .bool p :: .bool v :: .bool h :: .int .u32 (cnt : Int) :: (ms.map u8 ++ [.sl none cn 1 (cred.map u8), .int .u8 (kk : Int), .int .u64 (kn : Int), .sl none kbn 1 (kb.map u8), .sl none kkn 4 (kks.map CI.av), .int .u8 0, .int .u64 0, .sl none true 1 [], .sl none true 4 []]))]) (hasS []) (hasS []) (hasN []) (lkR [])) := by
  have hn : X.n = 173 := hX
  have hl2 : (hs.map u8).length = 32 := by rw [List.length_map]; exact hlen
  have ml2 : (ms.map u8).length = 16 := by rw [List.length_map]; exact mlen
  have ht1 := ap_take hl2
  have hd1 := ap_drop hl2
  have hg1 := ap_get hl2
  have ht2 := ap_take ml2
  have hd2 := ap_drop ml2
  have hg2 := ap_get ml2
  have hfl := f.toNat_lt
  have c33 := f33_ok hv nb r hnb
  obtain ⟨R, hR⟩ : ∃ R, extS valid f ⟨hs, p, v, h, cnt, ms, cn, cred, .mk kk kn kbn kb kkn kks, .zero⟩ r = R := ⟨_, rfl⟩
  rw [hR]
  unfold extS at hR
  show AWP Tryd.prog X (tl (tl (tl (tl (tl (tl (tl (tl (tl (tl ((Tryd.f37.body).getD .skip))))))))))) (retSF Tryd.prog Tryd.f37.results.toList 0 (.tup [R.1.av, .int .i64 (R.2 : Int)]) []) _
  unfold Tryd.f37
  dsimp only [tl, Option.getD_some]
  by_cases hf : bit f 128 = true
  · have hb : (f.toNat : Int) / 128 % 2 = 1 := by
      have : f.toNat / 128 % 2 = 1 := by simpa [bit] using hf
      omega
    rw [if_pos hf] at hR
    have c42 := f42_ok (decS valid r).1 (dec_kids valid r)
    obtain ⟨D, hD⟩ : ∃ D, decS valid r = D := ⟨_, rfl⟩
    have hso := dec_some valid r
    rw [hD] at hR c33 hso c42
    obtain ⟨x, o, e⟩ := D
    simp only at hR c33 hso c42
    obtain ⟨xk, xn, xbn, xb, xkn, xks⟩ := x
    by_cases he : e = 0
    · subst he
      rw [if_neg (by simp)] at hR
      obtain ⟨l, rfl, hll⟩ := hso rfl
      simp only [restAV, av_mk', Option.getD_some] at c33 c42 hR
      by_cases ht : textsS (.mk xk xn xbn xb xkn xks) = false
      · rw [ht] at c42
        rw [if_pos ht] at hR
        subst hR
        repeat' first
         | with_reducible refine Rl.go (by constructor <;> decide) ?_
         | ((with_reducible first | refine hK _ ?_ | refine hK.1 ?_ | refine hK.2 ?_); clear hK K)
         | ((with_reducible refine condS hK (fun hg => ?_) fun hg => ?_) <;> clear hK K <;> (try simp only [hgW] at hg) <;> try (exfalso; omega))
         | ((first | ((with_reducible first | refine Rk.go k37_VsDRef (by constructor) ?_ | refine Rd.go 19 k37_VsDRef a37_19_VsDRef o37_19_VsDRef mixed (by constructor) (by kernel_rfl) (by kernel_rfl) ?_ | refine Rd.go 28 k37_VsDRef a37_28_VsDRef o37_28_VsDRef mixed (by constructor) (by kernel_rfl) (by kernel_rfl) ?_); intro K hK) | with_reducible refine Rr.go [] (by constructor) ?_ | (with_reducible refine guardP_split (fun hg => ?_) fun hg => ?_) <;> (try simp only [hg]) <;> (try simp only [hgW] at hg) | refine Rc.go c33 (by constructor) ?_ | refine Rc.go c42 (by constructor) ?_) <;> simp -implicitDefEqProofs only [hb, List.append_assoc, hl2, ml2, hlen, mlen, ht1, hd1, hg1, ht2, hd2, hg2, zAD, AD.av, AD.cells, AD.zero, z32_u8, z16_u8, cs_zero, cs_mk, Int.cast_ofNat_Int, hn, go_sem, simprocAttr] <;> try (simp (disch := omega) only [wrW]; try simp -implicitDefEqProofs only [hb, List.append_assoc, hl2, ml2, hlen, mlen, ht1, hd1, hg1, ht2, hd2, hg2, zAD, AD.av, AD.cells, AD.zero, z32_u8, z16_u8, cs_zero, cs_mk, Int.cast_ofNat_Int, hn, go_sem, simprocAttr]))
         | with_reducible refine And.intro (by first | omega | (simp only [hgW]; omega)) ?_
         | (exfalso; omega)
      · rw [if_neg ht] at hR
        have htt : textsS (.mk xk xn xbn xb xkn xks) = true := by simpa using ht
        rw [htt] at c42
        unfold endS at hR
        by_cases hr : l = []
        · rw [if_pos hr] at hR
          subst hr
          subst hR
          repeat' first
           | with_reducible refine Rl.go (by constructor <;> decide) ?_
           | ((with_reducible first | refine hK _ ?_ | refine hK.1 ?_ | refine hK.2 ?_); clear hK K)
           | ((with_reducible refine condS hK (fun hg => ?_) fun hg => ?_) <;> clear hK K <;> (try simp only [hgW] at hg) <;> try (exfalso; omega))
           | ((first | ((with_reducible first | refine Rk.go k37_VsDRef (by constructor) ?_ | refine Rd.go 19 k37_VsDRef a37_19_VsDRef o37_19_VsDRef mixed (by constructor) (by kernel_rfl) (by kernel_rfl) ?_ | refine Rd.go 28 k37_VsDRef a37_28_VsDRef o37_28_VsDRef mixed (by constructor) (by kernel_rfl) (by kernel_rfl) ?_); intro K hK) | with_reducible refine Rr.go [] (by constructor) ?_ | (with_reducible refine guardP_split (fun hg => ?_) fun hg => ?_) <;> (try simp only [hg]) <;> (try simp only [hgW] at hg) | refine Rc.go c33 (by constructor) ?_ | refine Rc.go c42 (by constructor) ?_) <;> simp -implicitDefEqProofs only [hb, List.append_assoc, hl2, ml2, hlen, mlen, ht1, hd1, hg1, ht2, hd2, hg2, zAD, AD.av, AD.cells, AD.zero, z32_u8, z16_u8, cs_zero, cs_mk, Int.cast_ofNat_Int, hn, go_sem, simprocAttr] <;> try (simp (disch := omega) only [wrW]; try simp -implicitDefEqProofs only [hb, List.append_assoc, hl2, ml2, hlen, mlen, ht1, hd1, hg1, ht2, hd2, hg2, zAD, AD.av, AD.cells, AD.zero, z32_u8, z16_u8, cs_zero, cs_mk, Int.cast_ofNat_Int, hn, go_sem, simprocAttr]))
           | with_reducible refine And.intro (by first | omega | (simp only [hgW]; omega)) ?_
           | (exfalso; omega)
        · rw [if_neg hr] at hR
          have hr0 : 0 < l.length := List.length_pos_iff.2 hr
          subst hR
          repeat' first
           | with_reducible refine Rl.go (by constructor <;> decide) ?_
           | ((with_reducible first | refine hK _ ?_ | refine hK.1 ?_ | refine hK.2 ?_); clear hK K)
           | ((with_reducible refine condS hK (fun hg => ?_) fun hg => ?_) <;> clear hK K <;> (try simp only [hgW] at hg) <;> try (exfalso; omega))
           | ((first | ((with_reducible first | refine Rk.go k37_VsDRef (by constructor) ?_ | refine Rd.go 19 k37_VsDRef a37_19_VsDRef o37_19_VsDRef mixed (by constructor) (by kernel_rfl) (by kernel_rfl) ?_ | refine Rd.go 28 k37_VsDRef a37_28_VsDRef o37_28_VsDRef mixed (by constructor) (by kernel_rfl) (by kernel_rfl) ?_); intro K hK) | with_reducible refine Rr.go [] (by constructor) ?_ | (with_reducible refine guardP_split (fun hg => ?_) fun hg => ?_) <;> (try simp only [hg]) <;> (try simp only [hgW] at hg) | refine Rc.go c33 (by constructor) ?_ | refine Rc.go c42 (by constructor) ?_) <;> simp -implicitDefEqProofs only [hb, List.append_assoc, hl2, ml2, hlen, mlen, ht1, hd1, hg1, ht2, hd2, hg2, zAD, AD.av, AD.cells, AD.zero, z32_u8, z16_u8, cs_zero, cs_mk, Int.cast_ofNat_Int, hn, go_sem, simprocAttr] <;> try (simp (disch := omega) only [wrW]; try simp -implicitDefEqProofs only [hb, List.append_assoc, hl2, ml2, hlen, mlen, ht1, hd1, hg1, ht2, hd2, hg2, zAD, AD.av, AD.cells, AD.zero, z32_u8, z16_u8, cs_zero, cs_mk, Int.cast_ofNat_Int, hn, go_sem, simprocAttr]))
           | with_reducible refine And.intro (by first | omega | (simp only [hgW]; omega)) ?_
           | (exfalso; omega)
    · rw [if_pos he] at hR
      subst hR
      cases o with
      | none =>
        simp only [restAV, av_mk'] at c33
        repeat' first
         | with_reducible refine Rl.go (by constructor <;> decide) ?_
         | ((with_reducible first | refine hK _ ?_ | refine hK.1 ?_ | refine hK.2 ?_); clear hK K)
         | ((with_reducible refine condS hK (fun hg => ?_) fun hg => ?_) <;> clear hK K <;> (try simp only [hgW] at hg) <;> try (exfalso; omega))
         | ((first | ((with_reducible first | refine Rk.go k37_VsDRef (by constructor) ?_ | refine Rd.go 19 k37_VsDRef a37_19_VsDRef o37_19_VsDRef mixed (by constructor) (by kernel_rfl) (by kernel_rfl) ?_ | refine Rd.go 28 k37_VsDRef a37_28_VsDRef o37_28_VsDRef mixed (by constructor) (by kernel_rfl) (by kernel_rfl) ?_); intro K hK) | with_reducible refine Rr.go [] (by constructor) ?_ | (with_reducible refine guardP_split (fun hg => ?_) fun hg => ?_) <;> (try simp only [hg]) <;> (try simp only [hgW] at hg) | refine Rc.go c33 (by constructor) ?_) <;> simp -implicitDefEqProofs only [hb, List.append_assoc, hl2, ml2, hlen, mlen, ht1, hd1, hg1, ht2, hd2, hg2, zAD, AD.av, AD.cells, AD.zero, z32_u8, z16_u8, cs_zero, Int.cast_ofNat_Int, hn, go_sem, simprocAttr] <;> try (simp (disch := omega) only [wrW]; try simp -implicitDefEqProofs only [hb, List.append_assoc, hl2, ml2, hlen, mlen, ht1, hd1, hg1, ht2, hd2, hg2, zAD, AD.av, AD.cells, AD.zero, z32_u8, z16_u8, cs_zero, Int.cast_ofNat_Int, hn, go_sem, simprocAttr]))
         | with_reducible refine And.intro (by first | omega | (simp only [hgW]; omega)) ?_
         | (exfalso; omega)
      | some l =>
        simp only [restAV, av_mk'] at c33
        repeat' first
         | with_reducible refine Rl.go (by constructor <;> decide) ?_
         | ((with_reducible first | refine hK _ ?_ | refine hK.1 ?_ | refine hK.2 ?_); clear hK K)
         | ((with_reducible refine condS hK (fun hg => ?_) fun hg => ?_) <;> clear hK K <;> (try simp only [hgW] at hg) <;> try (exfalso; omega))
         | ((first | ((with_reducible first | refine Rk.go k37_VsDRef (by constructor) ?_ | refine Rd.go 19 k37_VsDRef a37_19_VsDRef o37_19_VsDRef mixed (by constructor) (by kernel_rfl) (by kernel_rfl) ?_ | refine Rd.go 28 k37_VsDRef a37_28_VsDRef o37_28_VsDRef mixed (by constructor) (by kernel_rfl) (by kernel_rfl) ?_); intro K hK) | with_reducible refine Rr.go [] (by constructor) ?_ | (with_reducible refine guardP_split (fun hg => ?_) fun hg => ?_) <;> (try simp only [hg]) <;> (try simp only [hgW] at hg) | refine Rc.go c33 (by constructor) ?_) <;> simp -implicitDefEqProofs only [hb, List.append_assoc, hl2, ml2, hlen, mlen, ht1, hd1, hg1, ht2, hd2, hg2, zAD, AD.av, AD.cells, AD.zero, z32_u8, z16_u8, cs_zero, Int.cast_ofNat_Int, hn, go_sem, simprocAttr] <;> try (simp (disch := omega) only [wrW]; try simp -implicitDefEqProofs only [hb, List.append_assoc, hl2, ml2, hlen, mlen, ht1, hd1, hg1, ht2, hd2, hg2, zAD, AD.av, AD.cells, AD.zero, z32_u8, z16_u8, cs_zero, Int.cast_ofNat_Int, hn, go_sem, simprocAttr]))
         | with_reducible refine And.intro (by first | omega | (simp only [hgW]; omega)) ?_
         | (exfalso; omega)
  · have hb : (f.toNat : Int) / 128 % 2 = 0 := by
      have : ¬ f.toNat / 128 % 2 = 1 := by simpa [bit] using hf
      omega
    rw [if_neg hf] at hR
    unfold endS at hR
    by_cases hr : r = []
    · rw [if_pos hr] at hR
      subst hr
      subst hR
      repeat' first
       | with_reducible refine Rl.go (by constructor <;> decide) ?_
       | ((with_reducible first | refine hK _ ?_ | refine hK.1 ?_ | refine hK.2 ?_); clear hK K)
       | ((with_reducible refine condS hK (fun hg => ?_) fun hg => ?_) <;> clear hK K <;> (try simp only [hgW] at hg) <;> try (exfalso; omega))
       | ((first | ((with_reducible first | refine Rk.go k37_VsDRef (by constructor) ?_ | refine Rd.go 19 k37_VsDRef a37_19_VsDRef o37_19_VsDRef mixed (by constructor) (by kernel_rfl) (by kernel_rfl) ?_ | refine Rd.go 28 k37_VsDRef a37_28_VsDRef o37_28_VsDRef mixed (by constructor) (by kernel_rfl) (by kernel_rfl) ?_); intro K hK) | with_reducible refine Rr.go [] (by constructor) ?_ | (with_reducible refine guardP_split (fun hg => ?_) fun hg => ?_) <;> (try simp only [hg]) <;> (try simp only [hgW] at hg)) <;> simp -implicitDefEqProofs only [hb, List.append_assoc, hl2, ml2, hlen, mlen, ht1, hd1, hg1, ht2, hd2, hg2, zAD, AD.av, AD.cells, cs_mk, cs_zero, Int.cast_ofNat_Int, hn, go_sem, simprocAttr] <;> try (simp (disch := omega) only [wrW]; try simp -implicitDefEqProofs only [hb, List.append_assoc, hl2, ml2, hlen, mlen, ht1, hd1, hg1, ht2, hd2, hg2, zAD, AD.av, AD.cells, cs_mk, cs_zero, Int.cast_ofNat_Int, hn, go_sem, simprocAttr]))
       | with_reducible refine And.intro (by first | omega | (simp only [hgW]; omega)) ?_
       | (exfalso; omega)
    · rw [if_neg hr] at hR
      have hr0 : 0 < r.length := List.length_pos_iff.2 hr
      subst hR
      repeat' first
       | with_reducible refine Rl.go (by constructor <;> decide) ?_
       | ((with_reducible first | refine hK _ ?_ | refine hK.1 ?_ | refine hK.2 ?_); clear hK K)
       | ((with_reducible refine condS hK (fun hg => ?_) fun hg => ?_) <;> clear hK K <;> (try simp only [hgW] at hg) <;> try (exfalso; omega))
       | ((first | ((with_reducible first | refine Rk.go k37_VsDRef (by constructor) ?_ | refine Rd.go 19 k37_VsDRef a37_19_VsDRef o37_19_VsDRef mixed (by constructor) (by kernel_rfl) (by kernel_rfl) ?_ | refine Rd.go 28 k37_VsDRef a37_28_VsDRef o37_28_VsDRef mixed (by constructor) (by kernel_rfl) (by kernel_rfl) ?_); intro K hK) | with_reducible refine Rr.go [] (by constructor) ?_ | (with_reducible refine guardP_split (fun hg => ?_) fun hg => ?_) <;> (try simp only [hg]) <;> (try simp only [hgW] at hg)) <;> simp -implicitDefEqProofs only [hb, List.append_assoc, hl2, ml2, hlen, mlen, ht1, hd1, hg1, ht2, hd2, hg2, zAD, AD.av, AD.cells, AD.zero, z32_u8, z16_u8, cs_zero, Int.cast_ofNat_Int, hn, go_sem, simprocAttr] <;> try (simp (disch := omega) only [wrW]; try simp -implicitDefEqProofs only [hb, List.append_assoc, hl2, ml2, hlen, mlen, ht1, hd1, hg1, ht2, hd2, hg2, zAD, AD.av, AD.cells, AD.zero, z32_u8, z16_u8, cs_zero, Int.cast_ofNat_Int, hn, go_sem, simprocAttr]))
       | with_reducible refine And.intro (by first | omega | (simp only [hgW]; omega)) ?_
       | (exfalso; omega)
end Go.Proofs.YtijcpdgfbboamaaDoor
