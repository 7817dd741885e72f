/- What Parse comes to, from the extensions on. -/
import Derived.Test.YtijcpdgfbboamaaDoorVsDOk
import Derived.Test.YtijcpdgfbboamaaDoorVsCRef3
open Go Go.VS
namespace Go.Proofs.YtijcpdgfbboamaaDoor
set_option linter.unusedVariables false
set_option linter.unusedSimpArgs false
set_option maxRecDepth 20000
set_option maxHeartbeats 4000000
theorem z32_u8 : z32.map u8 = [.int .u8 0, .int .u8 0, .int .u8 0, .int .u8 0, .int .u8 0, .int .u8 0, .int .u8 0, .int .u8 0, .int .u8 0, .int .u8 0, .int .u8 0, .int .u8 0, .int .u8 0, .int .u8 0, .int .u8 0, .int .u8 0, .int .u8 0, .int .u8 0, .int .u8 0, .int .u8 0, .int .u8 0, .int .u8 0, .int .u8 0, .int .u8 0, .int .u8 0, .int .u8 0, .int .u8 0, .int .u8 0, .int .u8 0, .int .u8 0, .int .u8 0, .int .u8 0] := rfl
theorem z16_u8 : z16.map u8 = [.int .u8 0, .int .u8 0, .int .u8 0, .int .u8 0, .int .u8 0, .int .u8 0, .int .u8 0, .int .u8 0, .int .u8 0, .int .u8 0, .int .u8 0, .int .u8 0, .int .u8 0, .int .u8 0, .int .u8 0, .int .u8 0] := rfl
def zAD : List AV := [.int .u8 0, .int .u8 0, .int .u8 0, .int .u8 0, .int .u8 0, .int .u8 0, .int .u8 0, .int .u8 0, .int .u8 0, .int .u8 0, .int .u8 0, .int .u8 0, .int .u8 0, .int .u8 0, .int .u8 0, .int .u8 0, .int .u8 0, .int .u8 0, .int .u8 0, .int .u8 0, .int .u8 0, .int .u8 0, .int .u8 0, .int .u8 0, .int .u8 0, .int .u8 0, .int .u8 0, .int .u8 0, .int .u8 0, .int .u8 0, .int .u8 0, .int .u8 0, .bool false, .bool false, .bool false, .int .u32 0, .int .u8 0, .int .u8 0, .int .u8 0, .int .u8 0, .int .u8 0, .int .u8 0, .int .u8 0, .int .u8 0, .int .u8 0, .int .u8 0, .int .u8 0, .int .u8 0, .int .u8 0, .int .u8 0, .int .u8 0, .int .u8 0, .sl none true 1 [], .int .u8 0, .int .u64 0, .sl none true 1 [], .sl none true 4 [], .int .u8 0, .int .u64 0, .sl none true 1 [], .sl none true 4 []]
def k24_VsDParse : List Nat := [0,2,3,4,5,7,8,9,10,11,21,43,44,45,46,60,63,92,110,115,124,130,134,135,136,137,148,153]
def a24_18_VsDParse : List Nat := [0,1,3,7,15,0,32,96,224,511,1023]
def o24_18_VsDParse : List Nat := [0,1,2,3,4,5,6,7,8,9,10]
attribute [go_sem] k24_VsDParse a24_18_VsDParse o24_18_VsDParse
theorem tail24 (X : Ent) (hX : X.n = 156) {valid : List UInt8 → Bool} (hv : ValidOk valid) (f : UInt8) (hs ms : List UInt8) (hlen : hs.length = 32) (mlen : ms.length = 16) (p v h : Bool) (cnt : Nat) (cn : Bool) (cred : List UInt8) (kk kn : Nat) (kbn kkn : Bool) (kb : List UInt8) (kks : List CI) (nb : Bool) (r : List UInt8) (hnb : nb = true → r = []) (hl : r.length ≤ 100000) :
    AWP Tryd.prog X (tlD (tlD (tlD (tlD (tlD (tlD (tlD (tlD (tlD (tlD ((Tryd.f24.body).getD .skip))))))))))) (retSF Tryd.prog Tryd.f24.results.toList 0 (.tup [(extS valid f ⟨hs, p, v, h, cnt, ms, cn, cred, .mk kk kn kbn kb kkn kks, .zero⟩ r).1.av, .int .i64 ((extS valid f ⟨hs, p, v, h, cnt, ms, cn, cred, .mk kk kn kbn kb kkn kks, .zero⟩ r).2 : Int)]) [])
      (St.mk (lk [(0, .sl none nb 1 (r.map u8)), (2, .ptr 2 0), (3, .int .i64 0), (4, .ptr 4 0), (5, .int .u8 (f.toNat : Int))])
        (lkB [(2, zAD), (4, hs.map u8 ++ .bool p :: .bool v :: .bool h :: .int .u32 (cnt : Int) :: (ms.map u8 ++ [.sl none cn 1 (cred.map u8), .int .u8 (kk : Int), .int .u64 (kn : Int), .sl none kbn 1 (kb.map u8), .sl none kkn 4 (kks.map CI.av), .int .u8 0, .int .u64 0, .sl none true 1 [], .sl none true 4 []]))]) (hasS []) (hasS []) (hasN []) (lkR [])) := by
  have hn : X.n = 156 := hX
  have hl2 : (hs.map u8).length = 32 := by rw [List.length_map]; exact hlen
  have ml2 : (ms.map u8).length = 16 := by rw [List.length_map]; exact mlen
  have ht1 := ap_take hl2
  have hd1 := ap_drop hl2
  have hg1 := ap_get hl2
  have ht2 := ap_take ml2
  have hd2 := ap_drop ml2
  have hg2 := ap_get ml2
  have c26 := f26_ok hv nb r hnb
  obtain ⟨R, hR⟩ : ∃ R, extS valid f ⟨hs, p, v, h, cnt, ms, cn, cred, .mk kk kn kbn kb kkn kks, .zero⟩ r = R := ⟨_, rfl⟩
  rw [hR]
  unfold extS at hR
  show AWP Tryd.prog X (tlD (tlD (tlD (tlD (tlD (tlD (tlD (tlD (tlD (tlD ((Tryd.f24.body).getD .skip))))))))))) (retSF Tryd.prog Tryd.f24.results.toList 0 (.tup [R.1.av, .int .i64 (R.2 : Int)]) []) _
  unfold Tryd.f24
  dsimp only [tlD, Option.getD_some]
  by_cases hf : bit f 128 = true
  · rw [if_pos hf] at hR
    obtain ⟨D, hD⟩ : ∃ D, decS valid r = D := ⟨_, rfl⟩
    have hkl := dec_kids valid r
    have hso := dec_some valid r
    rw [hD] at hR c26 hkl hso
    obtain ⟨x, o, e⟩ := D
    simp only at hR c26 hkl hso
    by_cases he : e = 0
    · subst he
      rw [if_neg (by simp)] at hR
      obtain ⟨xk, xn, xbn, xb, xkn, xks⟩ := x
      simp only [CI.ks] at hkl
      obtain ⟨l, rfl, hll⟩ := hso rfl
      simp only [restAV, av_mk', Option.getD_some] at c26 hR
      by_cases hk : xk = 6
      · subst hk
        have hts : textsS (.mk 6 xn xbn xb xkn xks) = keysFrom xks 0 := by simp [textsS, CI.k, CI.ks]
        rw [hts] at hR
        repeat' first
         | with_reducible refine Rl.go (by constructor <;> decide) ?_
         | ((with_reducible first | refine hK _ ?_ | refine hK.1 ?_ | refine hK.2 ?_); clear hK K)
         | ((with_reducible refine condS hK (fun hg => ?_) fun hg => ?_) <;> clear hK K <;> (try simp only [hgW] at hg) <;> try (exfalso; omega))
         | ((first | ((with_reducible first | refine Rk.go k24_VsDParse (by constructor) ?_ | refine Rd.go 18 k24_VsDParse a24_18_VsDParse o24_18_VsDParse mixed (by constructor) (by kernel_rfl) (by kernel_rfl) ?_); intro K hK) | with_reducible refine Rr.go [] (by constructor) ?_ | (with_reducible refine guardP_split (fun hg => ?_) fun hg => ?_) <;> (try simp only [hg]) <;> (try simp only [hgW] at hg) | refine Rc.go c26 (by constructor) ?_) <;> simp -implicitDefEqProofs only [f128, hf, Bool.not_not, List.append_assoc, hl2, ml2, hlen, mlen, ht1, hd1, hg1, ht2, hd2, hg2, zAD, AD.av, AD.cells, AD.zero, z32_u8, z16_u8, cs_zero, Int.cast_ofNat_Int, hn, go_sem, simprocAttr] <;> try (simp (disch := omega) only [wrW]; try simp -implicitDefEqProofs only [f128, hf, Bool.not_not, List.append_assoc, hl2, ml2, hlen, mlen, ht1, hd1, hg1, ht2, hd2, hg2, zAD, AD.av, AD.cells, AD.zero, z32_u8, z16_u8, cs_zero, Int.cast_ofNat_Int, hn, go_sem, simprocAttr]))
         | with_reducible refine And.intro (by first | omega | (simp only [hgW]; omega)) ?_
         | (exfalso; omega)
        refine AWP.loopX [0, 2, 3, 4, 134, 135, 136] [11] (fun i : Nat => St.mk (lk [(0, .sl none false 1 (l.map u8)), (2, .ptr 2 0), (3, .int .i64 0), (4, .ptr 4 0), (134, .sl none xkn 4 (xks.map CI.av)), (135, .int .i64 (xks.length : Int)), (136, .int .i64 (i : Int))])
            (lkB [(2, zAD), (4, hs.map u8 ++ .bool p :: .bool v :: .bool h :: .int .u32 (cnt : Int) :: (ms.map u8 ++ [.sl none cn 1 (cred.map u8), .int .u8 (kk : Int), .int .u64 (kn : Int), .sl none kbn 1 (kb.map u8), .sl none kkn 4 (kks.map CI.av), .int .u8 6, .int .u64 (xn : Int), .sl none xbn 1 (xb.map u8), .sl none xkn 4 (xks.map CI.av)]))]) (hasS []) (hasS []) (hasN []) (lkR []))
          (fun i => i ≤ xks.length ∧ (if keysFrom xks i = false then (AD.zero, 60) else endS ⟨hs, p, v, h, cnt, ms, cn, cred, .mk kk kn kbn kb kkn kks, .mk 6 xn xbn xb xkn xks⟩ l) = R) (fun i => xks.length - i) 0 ?_ ⟨Nat.zero_le _, hR⟩ ?_
        · simp -implicitDefEqProofs only [zAD, Int.cast_ofNat_Int, hn, go_sem, simprocAttr]
          try rfl
        rintro i ⟨h1, h2⟩
        by_cases hi : i = xks.length
        · subst hi
          rw [keysFrom_end _ _ (Nat.le_refl _), if_neg (by decide)] at h2
          unfold endS at h2
          by_cases hr : l = []
          · rw [if_pos hr] at h2
            subst hr
            subst h2
            repeat' first
             | with_reducible refine Rl.go (by constructor <;> decide) ?_
             | ((with_reducible first | refine hK _ ?_ | refine hK.1 ?_ | refine hK.2 ?_); clear hK K)
             | ((with_reducible refine condS hK (fun hg => ?_) fun hg => ?_) <;> clear hK K <;> (try simp only [hgW] at hg) <;> try (exfalso; omega))
             | ((first | ((with_reducible first | refine Rk.go k24_VsDParse (by constructor) ?_ | refine Rd.go 18 k24_VsDParse a24_18_VsDParse o24_18_VsDParse mixed (by constructor) (by kernel_rfl) (by kernel_rfl) ?_); intro K hK) | with_reducible refine Rr.go [] (by constructor) ?_ | (with_reducible refine guardP_split (fun hg => ?_) fun hg => ?_) <;> (try simp only [hg]) <;> (try simp only [hgW] at hg)) <;> simp -implicitDefEqProofs only [Bool.not_not, List.append_assoc, hl2, ml2, hlen, mlen, ht1, hd1, hg1, ht2, hd2, hg2, zAD, AD.av, AD.cells, AD.zero, z32_u8, z16_u8, cs_zero, cs_mk, Int.cast_ofNat_Int, hn, go_sem, simprocAttr] <;> try (simp (disch := omega) only [wrW]; try simp -implicitDefEqProofs only [Bool.not_not, List.append_assoc, hl2, ml2, hlen, mlen, ht1, hd1, hg1, ht2, hd2, hg2, zAD, AD.av, AD.cells, AD.zero, z32_u8, z16_u8, cs_zero, cs_mk, Int.cast_ofNat_Int, hn, go_sem, simprocAttr]))
             | with_reducible refine And.intro (by first | omega | (simp only [hgW]; omega)) ?_
             | (exfalso; omega)
          · rw [if_neg hr] at h2
            have hr0 : 0 < l.length := List.length_pos_iff.2 hr
            subst h2
            repeat' first
             | with_reducible refine Rl.go (by constructor <;> decide) ?_
             | ((with_reducible first | refine hK _ ?_ | refine hK.1 ?_ | refine hK.2 ?_); clear hK K)
             | ((with_reducible refine condS hK (fun hg => ?_) fun hg => ?_) <;> clear hK K <;> (try simp only [hgW] at hg) <;> try (exfalso; omega))
             | ((first | ((with_reducible first | refine Rk.go k24_VsDParse (by constructor) ?_ | refine Rd.go 18 k24_VsDParse a24_18_VsDParse o24_18_VsDParse mixed (by constructor) (by kernel_rfl) (by kernel_rfl) ?_); intro K hK) | with_reducible refine Rr.go [] (by constructor) ?_ | (with_reducible refine guardP_split (fun hg => ?_) fun hg => ?_) <;> (try simp only [hg]) <;> (try simp only [hgW] at hg)) <;> simp -implicitDefEqProofs only [Bool.not_not, List.append_assoc, hl2, ml2, hlen, mlen, ht1, hd1, hg1, ht2, hd2, hg2, zAD, AD.av, AD.cells, AD.zero, z32_u8, z16_u8, cs_zero, cs_mk, Int.cast_ofNat_Int, hn, go_sem, simprocAttr] <;> try (simp (disch := omega) only [wrW]; try simp -implicitDefEqProofs only [Bool.not_not, List.append_assoc, hl2, ml2, hlen, mlen, ht1, hd1, hg1, ht2, hd2, hg2, zAD, AD.av, AD.cells, AD.zero, z32_u8, z16_u8, cs_zero, cs_mk, Int.cast_ofNat_Int, hn, go_sem, simprocAttr]))
             | with_reducible refine And.intro (by first | omega | (simp only [hgW]; omega)) ?_
             | (exfalso; omega)
        obtain ⟨y, hy⟩ : ∃ y, xks.getD i default = y := ⟨_, rfl⟩
        rw [keysFrom_step _ _ (by omega), hy] at h2
        obtain ⟨yk, yn, ybn, yb, ykn, yks⟩ := y
        simp only [CI.k] at h2
        have e2 : (i : Int) + 1 = ((i + 1 : Nat) : Int) := by omega
        by_cases hodd : i % 2 = 1
        · have hm : (i : Int) % 2 = 1 := by omega
          simp only [hodd, decide_true, Bool.true_or, Bool.true_and] at h2
          repeat' first
           | with_reducible refine Rl.go (by constructor <;> decide) ?_
           | ((with_reducible first | refine hK _ ?_ | refine hK.1 ?_ | refine hK.2 ?_); clear hK K)
           | ((with_reducible refine condS hK (fun hg => ?_) fun hg => ?_) <;> clear hK K <;> (try simp only [hgW] at hg) <;> try (exfalso; omega))
           | ((first | ((with_reducible first | refine Rk.go k24_VsDParse (by constructor) ?_ | refine Rd.go 18 k24_VsDParse a24_18_VsDParse o24_18_VsDParse mixed (by constructor) (by kernel_rfl) (by kernel_rfl) ?_); intro K hK) | with_reducible refine Rr.go [] (by constructor) ?_ | (with_reducible refine guardP_split (fun hg => ?_) fun hg => ?_) <;> (try simp only [hg]) <;> (try simp only [hgW] at hg)) <;> simp -implicitDefEqProofs only [hy, hm, av_mk', Bool.not_not, List.append_assoc, hl2, ml2, hlen, mlen, ht1, hd1, hg1, ht2, hd2, hg2, zAD, AD.av, AD.cells, AD.zero, z32_u8, z16_u8, cs_zero, cs_mk, Int.cast_ofNat_Int, hn, go_sem, simprocAttr] <;> try (simp (disch := omega) only [wrW]; try simp -implicitDefEqProofs only [hy, hm, av_mk', Bool.not_not, List.append_assoc, hl2, ml2, hlen, mlen, ht1, hd1, hg1, ht2, hd2, hg2, zAD, AD.av, AD.cells, AD.zero, z32_u8, z16_u8, cs_zero, cs_mk, Int.cast_ofNat_Int, hn, go_sem, simprocAttr]))
           | with_reducible refine And.intro (by first | omega | (simp only [hgW]; omega)) ?_
           | (exfalso; omega)
          refine ⟨i + 1, ?_, ⟨by omega, h2⟩, by omega⟩
          rw [e2]
          simp -implicitDefEqProofs only [zAD, Int.cast_ofNat_Int, hn, go_sem, simprocAttr]
          try rfl
        have hm : (i : Int) % 2 = 0 := by omega
        simp only [hodd, decide_false, Bool.false_or] at h2
        by_cases h4 : yk = 4
        · subst h4
          simp only [decide_true, Bool.true_and] at h2
          repeat' first
           | with_reducible refine Rl.go (by constructor <;> decide) ?_
           | ((with_reducible first | refine hK _ ?_ | refine hK.1 ?_ | refine hK.2 ?_); clear hK K)
           | ((with_reducible refine condS hK (fun hg => ?_) fun hg => ?_) <;> clear hK K <;> (try simp only [hgW] at hg) <;> try (exfalso; omega))
           | ((first | ((with_reducible first | refine Rk.go k24_VsDParse (by constructor) ?_ | refine Rd.go 18 k24_VsDParse a24_18_VsDParse o24_18_VsDParse mixed (by constructor) (by kernel_rfl) (by kernel_rfl) ?_); intro K hK) | with_reducible refine Rr.go [] (by constructor) ?_ | (with_reducible refine guardP_split (fun hg => ?_) fun hg => ?_) <;> (try simp only [hg]) <;> (try simp only [hgW] at hg)) <;> simp -implicitDefEqProofs only [hy, hm, av_mk', Bool.not_not, List.append_assoc, hl2, ml2, hlen, mlen, ht1, hd1, hg1, ht2, hd2, hg2, zAD, AD.av, AD.cells, AD.zero, z32_u8, z16_u8, cs_zero, cs_mk, Int.cast_ofNat_Int, hn, go_sem, simprocAttr] <;> try (simp (disch := omega) only [wrW]; try simp -implicitDefEqProofs only [hy, hm, av_mk', Bool.not_not, List.append_assoc, hl2, ml2, hlen, mlen, ht1, hd1, hg1, ht2, hd2, hg2, zAD, AD.av, AD.cells, AD.zero, z32_u8, z16_u8, cs_zero, cs_mk, Int.cast_ofNat_Int, hn, go_sem, simprocAttr]))
           | with_reducible refine And.intro (by first | omega | (simp only [hgW]; omega)) ?_
           | (exfalso; omega)
          refine ⟨i + 1, ?_, ⟨by omega, h2⟩, by omega⟩
          rw [e2]
          simp -implicitDefEqProofs only [zAD, Int.cast_ofNat_Int, hn, go_sem, simprocAttr]
          try rfl
        · have h4' : ¬ (yk : Int) = 4 := by omega
          simp only [h4, decide_false, Bool.false_and, if_true] at h2
          subst h2
          repeat' first
           | with_reducible refine Rl.go (by constructor <;> decide) ?_
           | ((with_reducible first | refine hK _ ?_ | refine hK.1 ?_ | refine hK.2 ?_); clear hK K)
           | ((with_reducible refine condS hK (fun hg => ?_) fun hg => ?_) <;> clear hK K <;> (try simp only [hgW] at hg) <;> try (exfalso; omega))
           | ((first | ((with_reducible first | refine Rk.go k24_VsDParse (by constructor) ?_ | refine Rd.go 18 k24_VsDParse a24_18_VsDParse o24_18_VsDParse mixed (by constructor) (by kernel_rfl) (by kernel_rfl) ?_); intro K hK) | with_reducible refine Rr.go [] (by constructor) ?_ | (with_reducible refine guardP_split (fun hg => ?_) fun hg => ?_) <;> (try simp only [hg]) <;> (try simp only [hgW] at hg)) <;> simp -implicitDefEqProofs only [hy, hm, h4', av_mk', Bool.not_not, List.append_assoc, hl2, ml2, hlen, mlen, ht1, hd1, hg1, ht2, hd2, hg2, zAD, AD.av, AD.cells, AD.zero, z32_u8, z16_u8, cs_zero, cs_mk, Int.cast_ofNat_Int, hn, go_sem, simprocAttr] <;> try (simp (disch := omega) only [wrW]; try simp -implicitDefEqProofs only [hy, hm, h4', av_mk', Bool.not_not, List.append_assoc, hl2, ml2, hlen, mlen, ht1, hd1, hg1, ht2, hd2, hg2, zAD, AD.av, AD.cells, AD.zero, z32_u8, z16_u8, cs_zero, cs_mk, Int.cast_ofNat_Int, hn, go_sem, simprocAttr]))
           | with_reducible refine And.intro (by first | omega | (simp only [hgW]; omega)) ?_
           | (exfalso; omega)
      · have hts : textsS (.mk xk xn xbn xb xkn xks) = false := by simp [textsS, CI.k, hk]
        rw [if_pos hts] at hR
        subst hR
        have hk2 : ¬ (xk : Int) = 6 := by omega
        repeat' first
         | with_reducible refine Rl.go (by constructor <;> decide) ?_
         | ((with_reducible first | refine hK _ ?_ | refine hK.1 ?_ | refine hK.2 ?_); clear hK K)
         | ((with_reducible refine condS hK (fun hg => ?_) fun hg => ?_) <;> clear hK K <;> (try simp only [hgW] at hg) <;> try (exfalso; omega))
         | ((first | ((with_reducible first | refine Rk.go k24_VsDParse (by constructor) ?_ | refine Rd.go 18 k24_VsDParse a24_18_VsDParse o24_18_VsDParse mixed (by constructor) (by kernel_rfl) (by kernel_rfl) ?_); intro K hK) | with_reducible refine Rr.go [] (by constructor) ?_ | (with_reducible refine guardP_split (fun hg => ?_) fun hg => ?_) <;> (try simp only [hg]) <;> (try simp only [hgW] at hg) | refine Rc.go c26 (by constructor) ?_) <;> simp -implicitDefEqProofs only [f128, hf, hk2, Bool.not_not, List.append_assoc, hl2, ml2, hlen, mlen, ht1, hd1, hg1, ht2, hd2, hg2, zAD, AD.av, AD.cells, AD.zero, z32_u8, z16_u8, cs_zero, Int.cast_ofNat_Int, hn, go_sem, simprocAttr] <;> try (simp (disch := omega) only [wrW]; try simp -implicitDefEqProofs only [f128, hf, hk2, Bool.not_not, List.append_assoc, hl2, ml2, hlen, mlen, ht1, hd1, hg1, ht2, hd2, hg2, zAD, AD.av, AD.cells, AD.zero, z32_u8, z16_u8, cs_zero, Int.cast_ofNat_Int, hn, go_sem, simprocAttr]))
         | with_reducible refine And.intro (by first | omega | (simp only [hgW]; omega)) ?_
         | (exfalso; omega)
    · rw [if_pos he] at hR
      subst hR
      obtain ⟨xk, xn, xbn, xb, xkn, xks⟩ := x
      cases o with
      | none =>
        simp only [restAV, av_mk'] at c26
        repeat' first
         | with_reducible refine Rl.go (by constructor <;> decide) ?_
         | ((with_reducible first | refine hK _ ?_ | refine hK.1 ?_ | refine hK.2 ?_); clear hK K)
         | ((with_reducible refine condS hK (fun hg => ?_) fun hg => ?_) <;> clear hK K <;> (try simp only [hgW] at hg) <;> try (exfalso; omega))
         | ((first | ((with_reducible first | refine Rk.go k24_VsDParse (by constructor) ?_ | refine Rd.go 18 k24_VsDParse a24_18_VsDParse o24_18_VsDParse mixed (by constructor) (by kernel_rfl) (by kernel_rfl) ?_); intro K hK) | with_reducible refine Rr.go [] (by constructor) ?_ | (with_reducible refine guardP_split (fun hg => ?_) fun hg => ?_) <;> (try simp only [hg]) <;> (try simp only [hgW] at hg) | refine Rc.go c26 (by constructor) ?_) <;> simp -implicitDefEqProofs only [f128, hf, Bool.not_not, List.append_assoc, hl2, ml2, hlen, mlen, ht1, hd1, hg1, ht2, hd2, hg2, zAD, AD.av, AD.cells, AD.zero, z32_u8, z16_u8, cs_zero, Int.cast_ofNat_Int, hn, go_sem, simprocAttr] <;> try (simp (disch := omega) only [wrW]; try simp -implicitDefEqProofs only [f128, hf, Bool.not_not, List.append_assoc, hl2, ml2, hlen, mlen, ht1, hd1, hg1, ht2, hd2, hg2, zAD, AD.av, AD.cells, AD.zero, z32_u8, z16_u8, cs_zero, Int.cast_ofNat_Int, hn, go_sem, simprocAttr]))
         | with_reducible refine And.intro (by first | omega | (simp only [hgW]; omega)) ?_
         | (exfalso; omega)
      | some l =>
        simp only [restAV, av_mk'] at c26
        repeat' first
         | with_reducible refine Rl.go (by constructor <;> decide) ?_
         | ((with_reducible first | refine hK _ ?_ | refine hK.1 ?_ | refine hK.2 ?_); clear hK K)
         | ((with_reducible refine condS hK (fun hg => ?_) fun hg => ?_) <;> clear hK K <;> (try simp only [hgW] at hg) <;> try (exfalso; omega))
         | ((first | ((with_reducible first | refine Rk.go k24_VsDParse (by constructor) ?_ | refine Rd.go 18 k24_VsDParse a24_18_VsDParse o24_18_VsDParse mixed (by constructor) (by kernel_rfl) (by kernel_rfl) ?_); intro K hK) | with_reducible refine Rr.go [] (by constructor) ?_ | (with_reducible refine guardP_split (fun hg => ?_) fun hg => ?_) <;> (try simp only [hg]) <;> (try simp only [hgW] at hg) | refine Rc.go c26 (by constructor) ?_) <;> simp -implicitDefEqProofs only [f128, hf, Bool.not_not, List.append_assoc, hl2, ml2, hlen, mlen, ht1, hd1, hg1, ht2, hd2, hg2, zAD, AD.av, AD.cells, AD.zero, z32_u8, z16_u8, cs_zero, Int.cast_ofNat_Int, hn, go_sem, simprocAttr] <;> try (simp (disch := omega) only [wrW]; try simp -implicitDefEqProofs only [f128, hf, Bool.not_not, List.append_assoc, hl2, ml2, hlen, mlen, ht1, hd1, hg1, ht2, hd2, hg2, zAD, AD.av, AD.cells, AD.zero, z32_u8, z16_u8, cs_zero, Int.cast_ofNat_Int, hn, go_sem, simprocAttr]))
         | with_reducible refine And.intro (by first | omega | (simp only [hgW]; omega)) ?_
         | (exfalso; omega)
  · have hf0 : bit f 128 = false := by simpa using hf
    rw [if_neg hf] at hR
    unfold endS at hR
    by_cases hr : r = []
    · rw [if_pos hr] at hR
      subst hr
      subst hR
      repeat' first
       | with_reducible refine Rl.go (by constructor <;> decide) ?_
       | ((with_reducible first | refine hK _ ?_ | refine hK.1 ?_ | refine hK.2 ?_); clear hK K)
       | ((with_reducible refine condS hK (fun hg => ?_) fun hg => ?_) <;> clear hK K <;> (try simp only [hgW] at hg) <;> try (exfalso; omega))
       | ((first | ((with_reducible first | refine Rk.go k24_VsDParse (by constructor) ?_ | refine Rd.go 18 k24_VsDParse a24_18_VsDParse o24_18_VsDParse mixed (by constructor) (by kernel_rfl) (by kernel_rfl) ?_); intro K hK) | with_reducible refine Rr.go [] (by constructor) ?_ | (with_reducible refine guardP_split (fun hg => ?_) fun hg => ?_) <;> (try simp only [hg]) <;> (try simp only [hgW] at hg)) <;> simp -implicitDefEqProofs only [f128, hf0, Bool.not_not, List.append_assoc, hl2, ml2, hlen, mlen, ht1, hd1, hg1, ht2, hd2, hg2, zAD, AD.av, AD.cells, cs_mk, cs_zero, Int.cast_ofNat_Int, hn, go_sem, simprocAttr] <;> try (simp (disch := omega) only [wrW]; try simp -implicitDefEqProofs only [f128, hf0, Bool.not_not, List.append_assoc, hl2, ml2, hlen, mlen, ht1, hd1, hg1, ht2, hd2, hg2, zAD, AD.av, AD.cells, cs_mk, cs_zero, Int.cast_ofNat_Int, hn, go_sem, simprocAttr]))
       | with_reducible refine And.intro (by first | omega | (simp only [hgW]; omega)) ?_
       | (exfalso; omega)
    · rw [if_neg hr] at hR
      have hr0 : 0 < r.length := List.length_pos_iff.2 hr
      subst hR
      repeat' first
       | with_reducible refine Rl.go (by constructor <;> decide) ?_
       | ((with_reducible first | refine hK _ ?_ | refine hK.1 ?_ | refine hK.2 ?_); clear hK K)
       | ((with_reducible refine condS hK (fun hg => ?_) fun hg => ?_) <;> clear hK K <;> (try simp only [hgW] at hg) <;> try (exfalso; omega))
       | ((first | ((with_reducible first | refine Rk.go k24_VsDParse (by constructor) ?_ | refine Rd.go 18 k24_VsDParse a24_18_VsDParse o24_18_VsDParse mixed (by constructor) (by kernel_rfl) (by kernel_rfl) ?_); intro K hK) | with_reducible refine Rr.go [] (by constructor) ?_ | (with_reducible refine guardP_split (fun hg => ?_) fun hg => ?_) <;> (try simp only [hg]) <;> (try simp only [hgW] at hg)) <;> simp -implicitDefEqProofs only [f128, hf0, Bool.not_not, List.append_assoc, hl2, ml2, hlen, mlen, ht1, hd1, hg1, ht2, hd2, hg2, zAD, AD.av, AD.cells, AD.zero, z32_u8, z16_u8, cs_zero, Int.cast_ofNat_Int, hn, go_sem, simprocAttr] <;> try (simp (disch := omega) only [wrW]; try simp -implicitDefEqProofs only [f128, hf0, Bool.not_not, List.append_assoc, hl2, ml2, hlen, mlen, ht1, hd1, hg1, ht2, hd2, hg2, zAD, AD.av, AD.cells, AD.zero, z32_u8, z16_u8, cs_zero, Int.cast_ofNat_Int, hn, go_sem, simprocAttr]))
       | with_reducible refine And.intro (by first | omega | (simp only [hgW]; omega)) ?_
       | (exfalso; omega)
end Go.Proofs.YtijcpdgfbboamaaDoor
open Go Go.VS
namespace Go.Proofs.YtijcpdgfbboamaaDoor
set_option linter.unusedVariables false
set_option linter.unusedSimpArgs false
set_option maxRecDepth 20000
set_option maxHeartbeats 4000000
def k24_VsDParse2 : List Nat := [0,2,3,4,5,7,8,9,10,11,21,43,44,45,46,60,63,92,110,115,124,130,134,135,136,137,148,153]
def a24_18_VsDParse2 : List Nat := [0,1,3,7,15,0,32,96,224,511,1023]
def o24_18_VsDParse2 : List Nat := [0,1,2,3,4,5,6,7,8,9,10]
attribute [go_sem] k24_VsDParse2 a24_18_VsDParse2 o24_18_VsDParse2
theorem f24_short (nb : Bool) (b : List UInt8) (hs : b.length < 37) : CallsP Tryd.prog 24 [.sl none nb 1 (b.map u8)] (.tup [AD.zero.av, .int .i64 60]) := by
  refine CallsP.introF Tryd.func24 rfl (by show 1 ≤ 156; decide) ?_
  rintro X hX
  have hn : X.n = 156 := hX
  unfold Tryd.f24
  dsimp only
  rw [entryB_0, entry1]
  repeat' first
   | with_reducible refine Rl.go (by constructor <;> decide) ?_
   | ((with_reducible first | refine hK _ ?_ | refine hK.1 ?_ | refine hK.2 ?_); clear hK K)
   | ((with_reducible refine condS hK (fun hg => ?_) fun hg => ?_) <;> clear hK K <;> (try simp only [hgW] at hg) <;> try (exfalso; omega))
   | ((first | ((with_reducible first | refine Rk.go k24_VsDParse2 (by constructor) ?_ | refine Rd.go 18 k24_VsDParse2 a24_18_VsDParse2 o24_18_VsDParse2 mixed (by constructor) (by kernel_rfl) (by kernel_rfl) ?_); intro K hK) | with_reducible refine Rr.go [] (by constructor) ?_ | (with_reducible refine guardP_split (fun hg => ?_) fun hg => ?_) <;> (try simp only [hg]) <;> (try simp only [hgW] at hg)) <;> simp -implicitDefEqProofs only [AD.av, AD.cells, AD.zero, z32_u8, z16_u8, cs_zero, Int.cast_ofNat_Int, hn, go_sem, simprocAttr] <;> try (simp (disch := omega) only [wrW]; try simp -implicitDefEqProofs only [AD.av, AD.cells, AD.zero, z32_u8, z16_u8, cs_zero, Int.cast_ofNat_Int, hn, go_sem, simprocAttr]))
   | with_reducible refine And.intro (by first | omega | (simp only [hgW]; omega)) ?_
   | (exfalso; omega)
theorem f24_bad (nb : Bool) (b : List UInt8) (hs : ¬ b.length < 37) (hb : badF (b.getD 32 default) = true) : CallsP Tryd.prog 24 [.sl none nb 1 (b.map u8)] (.tup [AD.zero.av, .int .i64 60]) := by
  refine CallsP.introF Tryd.func24 rfl (by show 1 ≤ 156; decide) ?_
  rintro X hX
  have hn : X.n = 156 := hX
  unfold Tryd.f24
  dsimp only
  rw [entryB_0, entry1]
  repeat' first
   | with_reducible refine Rl.go (by constructor <;> decide) ?_
   | ((with_reducible first | refine hK _ ?_ | refine hK.1 ?_ | refine hK.2 ?_); clear hK K)
   | ((with_reducible refine condS hK (fun hg => ?_) fun hg => ?_) <;> clear hK K <;> (try simp only [hgW] at hg) <;> try (exfalso; omega))
   | ((first | ((with_reducible first | refine Rk.go k24_VsDParse2 (by constructor) ?_ | refine Rd.go 18 k24_VsDParse2 a24_18_VsDParse2 o24_18_VsDParse2 mixed (by constructor) (by kernel_rfl) (by kernel_rfl) ?_); intro K hK) | with_reducible refine Rr.go [] (by constructor) ?_ | (with_reducible refine guardP_split (fun hg => ?_) fun hg => ?_) <;> (try simp only [hg]) <;> (try simp only [hgW] at hg)) <;> simp -implicitDefEqProofs only [fBad, hb, Bool.not_not, u8, AD.av, AD.cells, AD.zero, z32_u8, z16_u8, cs_zero, Int.cast_ofNat_Int, hn, go_sem, simprocAttr] <;> try (simp (disch := omega) only [wrW]; try simp -implicitDefEqProofs only [fBad, hb, Bool.not_not, u8, AD.av, AD.cells, AD.zero, z32_u8, z16_u8, cs_zero, Int.cast_ofNat_Int, hn, go_sem, simprocAttr]))
   | with_reducible refine And.intro (by first | omega | (simp only [hgW]; omega)) ?_
   | (exfalso; omega)
theorem f24_free {valid : List UInt8 → Bool} (hv : ValidOk valid) (hs : List UInt8) (hlen : hs.length = 32) (f c0 c1 c2 c3 : UInt8) (r : List UInt8) (hb : badF f = false) (hl : r.length ≤ 100000) (hf : bit f 64 = false) (R : AD × Nat)
    (hR : extS valid f ⟨hs, bit f 1, bit f 4, false, be [c0, c1, c2, c3], z16, true, [], .zero, .zero⟩ r = R) :
    CallsP Tryd.prog 24 [.sl none false 1 ((hs ++ f :: c0 :: c1 :: c2 :: c3 :: r).map u8)] (.tup [R.1.av, .int .i64 (R.2 : Int)]) := by
  have hl2 : (hs.map u8).length = 32 := by rw [List.length_map]; exact hlen
  have ht1 := ap_take hlen (l := f :: c0 :: c1 :: c2 :: c3 :: r)
  have hd1 := ap_drop hlen (l := f :: c0 :: c1 :: c2 :: c3 :: r)
  have hg1 := ap_getD hlen (l := f :: c0 :: c1 :: c2 :: c3 :: r) (d := default)
  have ht2 := ap_take hl2
  have hd2 := ap_drop hl2
  have hg2 := ap_get hl2
  have T := fun (X : Ent) (hX : X.n = 156) => tail24 X hX hv f hs z16 hlen rfl (bit f 1) (bit f 4) false (be [c0, c1, c2, c3]) true [] 0 0 true true [] [] false r (fun h => by cases h) hl
  refine CallsP.introF Tryd.func24 rfl (by show 1 ≤ 156; decide) ?_
  rintro X hX
  have hn : X.n = 156 := hX
  unfold Tryd.f24
  dsimp only
  rw [entryB_0, entry1]
  repeat' first
   | (with_reducible refine markD 26 ?_)
   | with_reducible (first | refine Rl.go (by constructor <;> decide) ?_ | refine AWP.loopT 5 ?_ | refine AWP.unroll 5 ?_)
   | ((with_reducible first | refine hK _ ?_ | refine hK.1 ?_ | refine hK.2 ?_); clear hK K)
   | ((with_reducible refine condS hK (fun hg => ?_) fun hg => ?_) <;> clear hK K <;> (try simp only [hgW] at hg) <;> try (exfalso; omega))
   | ((first | ((with_reducible first | refine Rk.go k24_VsDParse2 (by constructor) ?_ | refine Rd.go 18 k24_VsDParse2 a24_18_VsDParse2 o24_18_VsDParse2 mixed (by constructor) (by kernel_rfl) (by kernel_rfl) ?_); intro K hK) | with_reducible refine Rr.go [] (by constructor) ?_ | (with_reducible refine guardP_split (fun hg => ?_) fun hg => ?_) <;> (try simp only [hg]) <;> (try simp only [hgW] at hg)) <;> simp -implicitDefEqProofs only [hb, fBad, f1, f4, f64, hf, Bool.not_not, hlen, hl2, ht1, hd1, hg1, ht2, hd2, hg2, List.append_assoc, u8, z16_u8, Int.cast_ofNat_Int, hn, go_sem, simprocAttr] <;> try (simp (disch := omega) only [wrW]; try simp -implicitDefEqProofs only [hb, fBad, f1, f4, f64, hf, Bool.not_not, hlen, hl2, ht1, hd1, hg1, ht2, hd2, hg2, List.append_assoc, u8, z16_u8, Int.cast_ofNat_Int, hn, go_sem, simprocAttr]))
   | with_reducible refine And.intro (by first | omega | (simp only [hgW]; omega)) ?_
   | (exfalso; omega)
  unfold MarkD
  refine AWP.slim [0, 2, 3, 4, 5] [] ?_
  have hr : 32 + (r.length + 1 + 1 + 1 + 1 + 1) - 37 = r.length := by omega
  simp -implicitDefEqProofs only [hr, cnt4, Int.cast_ofNat_Int, hn, go_sem, simprocAttr]
  have T := T X hX
  rw [z16_u8] at T
  simp only [zAD, List.cons_append, List.nil_append, List.map_nil] at T
  rw [← hR]
  exact T
theorem f24_h18 (hs : List UInt8) (hlen : hs.length = 32) (f c0 c1 c2 c3 : UInt8) (r : List UInt8) (hb : badF f = false) (hl : r.length < 18) (hf : bit f 64 = true) :
    CallsP Tryd.prog 24 [.sl none false 1 ((hs ++ f :: c0 :: c1 :: c2 :: c3 :: r).map u8)] (.tup [AD.zero.av, .int .i64 60]) := by
  have hl2 : (hs.map u8).length = 32 := by rw [List.length_map]; exact hlen
  have ht1 := ap_take hlen (l := f :: c0 :: c1 :: c2 :: c3 :: r)
  have hd1 := ap_drop hlen (l := f :: c0 :: c1 :: c2 :: c3 :: r)
  have hg1 := ap_getD hlen (l := f :: c0 :: c1 :: c2 :: c3 :: r) (d := default)
  have ht2 := ap_take hl2
  have hd2 := ap_drop hl2
  have hg2 := ap_get hl2
  have hr : 32 + (r.length + 1 + 1 + 1 + 1 + 1) - 37 = r.length := by omega
  refine CallsP.introF Tryd.func24 rfl (by show 1 ≤ 156; decide) ?_
  rintro X hX
  have hn : X.n = 156 := hX
  unfold Tryd.f24
  dsimp only
  rw [entryB_0, entry1]
  repeat' first
   | with_reducible (first | refine Rl.go (by constructor <;> decide) ?_ | refine AWP.loopT 5 ?_ | refine AWP.unroll 5 ?_)
   | ((with_reducible first | refine hK _ ?_ | refine hK.1 ?_ | refine hK.2 ?_); clear hK K)
   | ((with_reducible refine condS hK (fun hg => ?_) fun hg => ?_) <;> clear hK K <;> (try simp only [hgW] at hg) <;> try (exfalso; omega))
   | ((first | ((with_reducible first | refine Rk.go k24_VsDParse2 (by constructor) ?_ | refine Rd.go 18 k24_VsDParse2 a24_18_VsDParse2 o24_18_VsDParse2 mixed (by constructor) (by kernel_rfl) (by kernel_rfl) ?_); intro K hK) | with_reducible refine Rr.go [] (by constructor) ?_ | (with_reducible refine guardP_split (fun hg => ?_) fun hg => ?_) <;> (try simp only [hg]) <;> (try simp only [hgW] at hg)) <;> simp -implicitDefEqProofs only [hb, hr, fBad, f1, f4, f64, hf, Bool.not_not, hlen, hl2, ht1, hd1, hg1, ht2, hd2, hg2, List.append_assoc, u8, AD.av, AD.cells, AD.zero, z32_u8, z16_u8, cs_zero, Int.cast_ofNat_Int, hn, go_sem, simprocAttr] <;> try (simp (disch := omega) only [wrW]; try simp -implicitDefEqProofs only [hb, hr, fBad, f1, f4, f64, hf, Bool.not_not, hlen, hl2, ht1, hd1, hg1, ht2, hd2, hg2, List.append_assoc, u8, AD.av, AD.cells, AD.zero, z32_u8, z16_u8, cs_zero, Int.cast_ofNat_Int, hn, go_sem, simprocAttr]))
   | with_reducible refine And.intro (by first | omega | (simp only [hgW]; omega)) ?_
   | (exfalso; omega)
theorem f24_hn (hs : List UInt8) (hlen : hs.length = 32) (f c0 c1 c2 c3 : UInt8) (ms : List UInt8) (mlen : ms.length = 16) (n0 n1 : UInt8) (q : List UInt8) (hb : badF f = false) (hl : q.length ≤ 100000) (hf : bit f 64 = true)
    (hbad : n0.toNat * 256 + n1.toNat < 1 ∨ 128 < n0.toNat * 256 + n1.toNat ∨ q.length < n0.toNat * 256 + n1.toNat) :
    CallsP Tryd.prog 24 [.sl none false 1 ((hs ++ f :: c0 :: c1 :: c2 :: c3 :: (ms ++ n0 :: n1 :: q)).map u8)] (.tup [AD.zero.av, .int .i64 60]) := by
  have hl2 : (hs.map u8).length = 32 := by rw [List.length_map]; exact hlen
  have ml2 : (ms.map u8).length = 16 := by rw [List.length_map]; exact mlen
  have ht1 := ap_take hlen (l := f :: c0 :: c1 :: c2 :: c3 :: (ms ++ n0 :: n1 :: q))
  have hd1 := ap_drop hlen (l := f :: c0 :: c1 :: c2 :: c3 :: (ms ++ n0 :: n1 :: q))
  have hg1 := ap_getD hlen (l := f :: c0 :: c1 :: c2 :: c3 :: (ms ++ n0 :: n1 :: q)) (d := default)
  have ht2 := ap_take hl2
  have hd2 := ap_drop hl2
  have hg2 := ap_get hl2
  have mt1 := ap_take mlen (l := n0 :: n1 :: q)
  have md1 := ap_drop mlen (l := n0 :: n1 :: q)
  have mg1 := ap_getD mlen (l := n0 :: n1 :: q) (d := default)
  have mt2 := ap_take ml2
  have md2 := ap_drop ml2
  have mg2 := ap_get ml2
  have hr : 32 + (16 + (q.length + 1 + 1) + 1 + 1 + 1 + 1 + 1) - 37 = (ms ++ n0 :: n1 :: q).length := by simp [mlen]; omega
  have hr2 : 16 + (q.length + 1 + 1) - 18 = q.length := by omega
  have h0 := n0.toNat_lt
  have h1 := n1.toNat_lt
  refine CallsP.introF Tryd.func24 rfl (by show 1 ≤ 156; decide) ?_
  rintro X hX
  have hn : X.n = 156 := hX
  unfold Tryd.f24
  dsimp only
  rw [entryB_0, entry1]
  repeat' first
   | with_reducible (first | refine Rl.go (by constructor <;> decide) ?_ | refine AWP.loopT 5 ?_ | refine AWP.unroll 5 ?_)
   | ((with_reducible first | refine hK _ ?_ | refine hK.1 ?_ | refine hK.2 ?_); clear hK K)
   | ((with_reducible refine condS hK (fun hg => ?_) fun hg => ?_) <;> clear hK K <;> (try simp only [hgW] at hg) <;> try (exfalso; omega))
   | ((first | ((with_reducible first | refine Rk.go k24_VsDParse2 (by constructor) ?_ | refine Rd.go 18 k24_VsDParse2 a24_18_VsDParse2 o24_18_VsDParse2 mixed (by constructor) (by kernel_rfl) (by kernel_rfl) ?_); intro K hK) | with_reducible refine Rr.go [] (by constructor) ?_ | (with_reducible refine guardP_split (fun hg => ?_) fun hg => ?_) <;> (try simp only [hg]) <;> (try simp only [hgW] at hg)) <;> simp -implicitDefEqProofs only [hb, hr, hr2, fBad, f1, f4, f64, hf, Bool.not_not, hlen, mlen, hl2, ml2, ht1, hd1, hg1, ht2, hd2, hg2, mt1, md1, mg1, mt2, md2, mg2, List.append_assoc, u8, AD.av, AD.cells, AD.zero, z32_u8, z16_u8, cs_zero, Int.cast_ofNat_Int, hn, go_sem, simprocAttr] <;> try (simp (disch := omega) only [wrW]; try simp -implicitDefEqProofs only [hb, hr, hr2, fBad, f1, f4, f64, hf, Bool.not_not, hlen, mlen, hl2, ml2, ht1, hd1, hg1, ht2, hd2, hg2, mt1, md1, mg1, mt2, md2, mg2, List.append_assoc, u8, AD.av, AD.cells, AD.zero, z32_u8, z16_u8, cs_zero, Int.cast_ofNat_Int, hn, go_sem, simprocAttr]))
   | with_reducible refine And.intro (by first | omega | (simp only [hgW]; omega)) ?_
   | (exfalso; omega)
  all_goals trace_state
end Go.Proofs.YtijcpdgfbboamaaDoor
