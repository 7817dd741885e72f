/- What Write comes to. -/
import Derived.Test.YtijcpdgfbboamaaDoorVsDParse2
import Derived.Test.YtijcpdgfbboamaaDoorVsDWrS
import Derived.Test.YtijcpdgfbboamaaDoorVsCEncE
open Go Go.VS
namespace Go.Proofs.YtijcpdgfbboamaaDoor
set_option linter.unusedVariables false
set_option linter.unusedSimpArgs false
set_option maxRecDepth 20000
set_option maxHeartbeats 4000000
theorem all_one {f : AV → Bool} (h : ∀ n, f (.int .u8 n) = true) : ∀ (l : List UInt8), (l.map u8).all f = true
  | [] => rfl
  | c :: l => by simp only [List.map_cons, List.all_cons, all_one h l, Bool.and_true]; exact h _
theorem or_acc1 : bitop .or .u8 0 1 = 1 := by decide +kernel
theorem or_acc2 (p : Bool) : bitop .or .u8 ((p.toNat : Nat) : Int) 4 = ((p.toNat + 4 : Nat) : Int) := by cases p <;> decide +kernel
theorem or_acc3 (p v : Bool) : bitop .or .u8 ((p.toNat + 4 * v.toNat : Nat) : Int) 64 = ((p.toNat + 4 * v.toNat + 64 : Nat) : Int) := by cases p <;> cases v <;> decide +kernel
theorem or_acc4 (p v h : Bool) : bitop .or .u8 ((p.toNat + 4 * v.toNat + 64 * h.toNat : Nat) : Int) 128 = ((p.toNat + 4 * v.toNat + 64 * h.toNat + 128 : Nat) : Int) := by cases p <;> cases v <;> cases h <;> decide +kernel
theorem enc_len2 (valid : List UInt8 → Bool) (x : CI) : (encS valid x).1.length ≤ 8192 := by
  unfold encS
  simp only
  split
  · simp
  split
  · simp
  · rename_i h; simp only; omega
theorem enc_nil (valid : List UInt8 → Bool) (x : CI) : ((encS valid x).2 ≠ 0 → (encS valid x).1 = []) ∧ ((encS valid x).2 = 0 → (encS valid x).1.isEmpty = false) := by
  refine ⟨?_, fun h => enc_ne (valid := valid) (x := x) (c := (encS valid x).1) (by rw [← h])⟩
  unfold encS
  simp only
  split
  · exact fun _ => rfl
  split
  · exact fun _ => rfl
  · exact fun h => absurd rfl h
def k30_VsDWrite : List Nat := [0,1,2,3,4,5,7,8,9,10,11,12,13,14,33,34,35,36,40,66,75,83,105,113,117,118,119,120,131]
def p30_17_VsDWrite : List Nat := []
def a30_17_VsDWrite : List Nat := [0,0,2,7,0,16,48,0,128,496,1023,0,2048,8191,16383]
def o30_17_VsDWrite : List (List Nat) := [[0,1,2,3,4,5,6,7,8,9,10,11,12,13,14],[4,5,6,7,8,9,0,1,2,3,10,11,12,13,14]]
attribute [go_sem] k30_VsDWrite p30_17_VsDWrite a30_17_VsDWrite o30_17_VsDWrite
def outAV (r : List UInt8 × Nat) : AV := .tup [.sl none (decide (r.2 ≠ 0)) 1 (r.1.map u8), .int .i64 (r.2 : Int)]
theorem tail30 (X : Ent) (hX : X.n = 137) {valid : List UInt8 → Bool} (hv : ValidI valid) (hs ms : List UInt8) (h1 : hs.length = 32) (h2 : ms.length = 16) (p v h : Bool) (cnt : Nat) (cn : Bool) (cred : List UInt8) (kk kn : Nat) (kbn kkn : Bool) (kb' : List UInt8) (kks : List CI)
    (xk xn : Nat) (xbn xkn : Bool) (xb : List UInt8) (xks : List CI) (hf : Fit 8 (.mk xk xn xbn xb xkn xks)) (o : List UInt8) (ho : o.length ≤ 1000000) :
    AWP Tryd.prog X (tlD (tlD (tlD (tlD (tlD (tlD ((Tryd.f30.body).getD .skip))))))) (retSF Tryd.prog Tryd.f30.results.toList 0 (outAV (extW valid ⟨hs, p, v, h, cnt, ms, cn, cred, .mk kk kn kbn kb' kkn kks, .mk xk xn xbn xb xkn xks⟩ o)) [])
      (St.mk (lk [(1, .ptr 1 0), (2, .sl none true 1 []), (3, .int .i64 0), (4, .sl (some ((0, 15), 0)) false 1 (o.map u8))]) (lkB [(1, hs.map u8 ++ .bool p :: .bool v :: .bool h :: .int .u32 (cnt : Int) :: (ms.map u8 ++ [.sl none cn 1 (cred.map u8), .int .u8 (kk : Int), .int .u64 (kn : Int), .sl none kbn 1 (kb'.map u8), .sl none kkn 4 (kks.map CI.av), .int .u8 (xk : Int), .int .u64 (xn : Int), .sl none xbn 1 (xb.map u8), .sl none xkn 4 (xks.map CI.av)]))]) (hasS []) (hasS []) (hasN []) (lkR [])) := by
  have hn : X.n = 137 := hX
  have hl2 : (hs.map u8).length = 32 := by rw [List.length_map]; exact h1
  have ml2 : (ms.map u8).length = 16 := by rw [List.length_map]; exact h2
  have ht1 := ap_take hl2
  have hd1 := ap_drop hl2
  have hg1 := ap_get hl2
  have ht2 := ap_take ml2
  have hd2 := ap_drop ml2
  have hg2 := ap_get ml2
  have ha1 : ∀ l, List.take 32 (hs.map u8 ++ l) = hs.map u8 := fun l => by have := ht1 l 0; simpa using this
  have ha2 : ∀ l, List.take 16 (ms.map u8 ++ l) = ms.map u8 := fun l => by have := ht2 l 0; simpa using this
  have c25 := f25_ok hv _ hf
  have hkl : xks.length ≤ 100000 := hf.here.2.2.2.1
  obtain ⟨R, hR⟩ : ∃ R, extW valid ⟨hs, p, v, h, cnt, ms, cn, cred, .mk kk kn kbn kb' kkn kks, .mk xk xn xbn xb xkn xks⟩ o = R := ⟨_, rfl⟩
  rw [hR]
  have eW : extW valid ⟨hs, p, v, h, cnt, ms, cn, cred, .mk kk kn kbn kb' kkn kks, .mk xk xn xbn xb xkn xks⟩ o = if xk = 6 then
      (if (encS valid (.mk xk xn xbn xb xkn xks)).2 ≠ 0 then ([], (encS valid (.mk xk xn xbn xb xkn xks)).2) else if keysFrom xks 0 = false then ([], 60) else (o ++ (encS valid (.mk xk xn xbn xb xkn xks)).1, 0)) else (o, 0) := rfl
  rw [eW] at hR
  clear eW
  show AWP Tryd.prog X (tlD (tlD (tlD (tlD (tlD (tlD ((Tryd.f30.body).getD .skip))))))) (retSF Tryd.prog Tryd.f30.results.toList 0 (outAV R) []) _
  unfold Tryd.f30
  dsimp only [tlD, Option.getD_some]
  by_cases hk : xk = 6
  · subst hk
    rw [if_pos rfl] at hR
    have hlen := enc_len2 valid (.mk 6 xn xbn xb xkn xks)
    have hnil := enc_nil valid (.mk 6 xn xbn xb xkn xks)
    obtain ⟨E, hE⟩ : ∃ E, encS valid (.mk 6 xn xbn xb xkn xks) = E := ⟨_, rfl⟩
    rw [hE] at hR c25 hlen hnil
    obtain ⟨a, e⟩ := E
    simp only at hR c25 hlen hnil
    by_cases he : e = 0
    · subst he
      rw [if_neg (by simp)] at hR
      have hae := hnil.2 rfl
      simp only [av_mk', bytesAV, hae] at c25
      repeat' first
       | with_reducible refine Rl.go (by constructor <;> decide) ?_
       | ((with_reducible first | refine hK _ ?_ | refine hK.1 ?_ | refine hK.2 ?_); clear hK K)
       | ((with_reducible refine condS hK (fun hg => ?_) fun hg => ?_) <;> clear hK K <;> (try simp only [hgW] at hg) <;> try (exfalso; omega))
       | ((first | ((with_reducible first | refine Rk.go k30_VsDWrite (by constructor) ?_ | refine Rm.go 17 k30_VsDWrite p30_17_VsDWrite a30_17_VsDWrite o30_17_VsDWrite mixed (by constructor) (by kernel_rfl) (by kernel_rfl) (by with_unfolding_all rfl) ?_); intro K hK) | with_reducible refine Rr.go [] (by constructor) ?_ | (with_reducible refine guardP_split (fun hg => ?_) fun hg => ?_) <;> (try simp only [hg]) <;> (try simp only [hgW] at hg) | refine Rc.go c25 (by constructor) ?_) <;> simp -implicitDefEqProofs only [AD.av, AD.cells, cs_mk, all_one, List.append_assoc, h1, h2, hl2, ml2, ha1, ha2, ht1, hd1, hg1, ht2, hd2, hg2, Int.cast_ofNat_Int, hn, go_sem, simprocAttr] <;> try (simp (disch := omega) only [wrW]; try simp -implicitDefEqProofs only [AD.av, AD.cells, cs_mk, all_one, List.append_assoc, h1, h2, hl2, ml2, ha1, ha2, ht1, hd1, hg1, ht2, hd2, hg2, Int.cast_ofNat_Int, hn, go_sem, simprocAttr]))
       | with_reducible refine And.intro (by first | omega | (simp only [hgW]; omega)) ?_
       | (exfalso; omega)
      refine AWP.loopX [1, 2, 3, 4, 11, 117, 118, 119] [14] (fun i : Nat => St.mk (lk [(1, .ptr 1 0), (2, .sl none true 1 []), (3, .int .i64 0), (4, .sl (some ((0, 15), 0)) false 1 (o.map u8)), (11, .sl none false 1 (a.map u8)), (117, .sl none xkn 4 (xks.map CI.av)), (118, .int .i64 (xks.length : Int)), (119, .int .i64 (i : Int))])
          (lkB [(1, hs.map u8 ++ .bool p :: .bool v :: .bool h :: .int .u32 (cnt : Int) :: (ms.map u8 ++ [.sl none cn 1 (cred.map u8), .int .u8 (kk : Int), .int .u64 (kn : Int), .sl none kbn 1 (kb'.map u8), .sl none kkn 4 (kks.map CI.av), .int .u8 6, .int .u64 (xn : Int), .sl none xbn 1 (xb.map u8), .sl none xkn 4 (xks.map CI.av)]))]) (hasS []) (hasS []) (hasN []) (lkR []))
        (fun i => i ≤ xks.length ∧ (if keysFrom xks i = false then ([], 60) else (o ++ a, 0)) = R) (fun i => xks.length - i) 0 ?_ ⟨Nat.zero_le _, hR⟩ ?_
      · simp -implicitDefEqProofs only [Int.cast_ofNat_Int, hn, go_sem, simprocAttr]
        try rfl
      rintro i ⟨g1, g2⟩
      by_cases hi : i = xks.length
      · subst hi
        rw [keysFrom_end _ _ (Nat.le_refl _), if_neg (by decide)] at g2
        subst g2
        repeat' first
         | with_reducible refine Rl.go (by constructor <;> decide) ?_
         | ((with_reducible first | refine hK _ ?_ | refine hK.1 ?_ | refine hK.2 ?_); clear hK K)
         | ((with_reducible refine condS hK (fun hg => ?_) fun hg => ?_) <;> clear hK K <;> (try simp only [hgW] at hg) <;> try (exfalso; omega))
         | ((first | ((with_reducible first | refine Rk.go k30_VsDWrite (by constructor) ?_ | refine Rm.go 17 k30_VsDWrite p30_17_VsDWrite a30_17_VsDWrite o30_17_VsDWrite mixed (by constructor) (by kernel_rfl) (by kernel_rfl) (by with_unfolding_all rfl) ?_); intro K hK) | with_reducible refine Rr.go [] (by constructor) ?_ | (with_reducible refine guardP_split (fun hg => ?_) fun hg => ?_) <;> (try simp only [hg]) <;> (try simp only [hgW] at hg)) <;> simp -implicitDefEqProofs only [outAV, List.map_append, AD.av, AD.cells, cs_mk, all_one, List.append_assoc, h1, h2, hl2, ml2, ha1, ha2, ht1, hd1, hg1, ht2, hd2, hg2, Int.cast_ofNat_Int, hn, go_sem, simprocAttr] <;> try (simp (disch := omega) only [wrW]; try simp -implicitDefEqProofs only [outAV, List.map_append, AD.av, AD.cells, cs_mk, all_one, List.append_assoc, h1, h2, hl2, ml2, ha1, ha2, ht1, hd1, hg1, ht2, hd2, hg2, Int.cast_ofNat_Int, hn, go_sem, simprocAttr]))
         | with_reducible refine And.intro (by first | omega | (simp only [hgW]; omega)) ?_
         | (exfalso; omega)
      obtain ⟨y, hy⟩ : ∃ y, xks.getD i default = y := ⟨_, rfl⟩
      rw [keysFrom_step _ _ (by omega), hy] at g2
      obtain ⟨yk, yn, ybn, yb, ykn, yks⟩ := y
      simp only [CI.k] at g2
      have e2 : (i : Int) + 1 = ((i + 1 : Nat) : Int) := by omega
      by_cases hodd : i % 2 = 1
      · have hm : (i : Int) % 2 = 1 := by omega
        simp only [hodd, decide_true, Bool.true_or, Bool.true_and] at g2
        repeat' first
         | with_reducible refine Rl.go (by constructor <;> decide) ?_
         | ((with_reducible first | refine hK _ ?_ | refine hK.1 ?_ | refine hK.2 ?_); clear hK K)
         | ((with_reducible refine condS hK (fun hg => ?_) fun hg => ?_) <;> clear hK K <;> (try simp only [hgW] at hg) <;> try (exfalso; omega))
         | ((first | ((with_reducible first | refine Rk.go k30_VsDWrite (by constructor) ?_ | refine Rm.go 17 k30_VsDWrite p30_17_VsDWrite a30_17_VsDWrite o30_17_VsDWrite mixed (by constructor) (by kernel_rfl) (by kernel_rfl) (by with_unfolding_all rfl) ?_); intro K hK) | with_reducible refine Rr.go [] (by constructor) ?_ | (with_reducible refine guardP_split (fun hg => ?_) fun hg => ?_) <;> (try simp only [hg]) <;> (try simp only [hgW] at hg)) <;> simp -implicitDefEqProofs only [hy, hm, av_mk', AD.av, AD.cells, cs_mk, all_one, List.append_assoc, h1, h2, hl2, ml2, ha1, ha2, ht1, hd1, hg1, ht2, hd2, hg2, Int.cast_ofNat_Int, hn, go_sem, simprocAttr] <;> try (simp (disch := omega) only [wrW]; try simp -implicitDefEqProofs only [hy, hm, av_mk', AD.av, AD.cells, cs_mk, all_one, List.append_assoc, h1, h2, hl2, ml2, ha1, ha2, ht1, hd1, hg1, ht2, hd2, hg2, Int.cast_ofNat_Int, hn, go_sem, simprocAttr]))
         | with_reducible refine And.intro (by first | omega | (simp only [hgW]; omega)) ?_
         | (exfalso; omega)
        refine ⟨i + 1, ?_, ⟨by omega, g2⟩, by omega⟩
        rw [e2]
        simp -implicitDefEqProofs only [Int.cast_ofNat_Int, hn, go_sem, simprocAttr]
        try rfl
      have hm : (i : Int) % 2 = 0 := by omega
      simp only [hodd, decide_false, Bool.false_or] at g2
      by_cases h4 : yk = 4
      · subst h4
        simp only [decide_true, Bool.true_and] at g2
        repeat' first
         | with_reducible refine Rl.go (by constructor <;> decide) ?_
         | ((with_reducible first | refine hK _ ?_ | refine hK.1 ?_ | refine hK.2 ?_); clear hK K)
         | ((with_reducible refine condS hK (fun hg => ?_) fun hg => ?_) <;> clear hK K <;> (try simp only [hgW] at hg) <;> try (exfalso; omega))
         | ((first | ((with_reducible first | refine Rk.go k30_VsDWrite (by constructor) ?_ | refine Rm.go 17 k30_VsDWrite p30_17_VsDWrite a30_17_VsDWrite o30_17_VsDWrite mixed (by constructor) (by kernel_rfl) (by kernel_rfl) (by with_unfolding_all rfl) ?_); intro K hK) | with_reducible refine Rr.go [] (by constructor) ?_ | (with_reducible refine guardP_split (fun hg => ?_) fun hg => ?_) <;> (try simp only [hg]) <;> (try simp only [hgW] at hg)) <;> simp -implicitDefEqProofs only [hy, hm, av_mk', AD.av, AD.cells, cs_mk, all_one, List.append_assoc, h1, h2, hl2, ml2, ha1, ha2, ht1, hd1, hg1, ht2, hd2, hg2, Int.cast_ofNat_Int, hn, go_sem, simprocAttr] <;> try (simp (disch := omega) only [wrW]; try simp -implicitDefEqProofs only [hy, hm, av_mk', AD.av, AD.cells, cs_mk, all_one, List.append_assoc, h1, h2, hl2, ml2, ha1, ha2, ht1, hd1, hg1, ht2, hd2, hg2, Int.cast_ofNat_Int, hn, go_sem, simprocAttr]))
         | with_reducible refine And.intro (by first | omega | (simp only [hgW]; omega)) ?_
         | (exfalso; omega)
        refine ⟨i + 1, ?_, ⟨by omega, g2⟩, by omega⟩
        rw [e2]
        simp -implicitDefEqProofs only [Int.cast_ofNat_Int, hn, go_sem, simprocAttr]
        try rfl
      · have h4' : ¬ (yk : Int) = 4 := by omega
        simp only [h4, decide_false, Bool.false_and, if_true] at g2
        subst g2
        repeat' first
         | with_reducible refine Rl.go (by constructor <;> decide) ?_
         | ((with_reducible first | refine hK _ ?_ | refine hK.1 ?_ | refine hK.2 ?_); clear hK K)
         | ((with_reducible refine condS hK (fun hg => ?_) fun hg => ?_) <;> clear hK K <;> (try simp only [hgW] at hg) <;> try (exfalso; omega))
         | ((first | ((with_reducible first | refine Rk.go k30_VsDWrite (by constructor) ?_ | refine Rm.go 17 k30_VsDWrite p30_17_VsDWrite a30_17_VsDWrite o30_17_VsDWrite mixed (by constructor) (by kernel_rfl) (by kernel_rfl) (by with_unfolding_all rfl) ?_); intro K hK) | with_reducible refine Rr.go [] (by constructor) ?_ | (with_reducible refine guardP_split (fun hg => ?_) fun hg => ?_) <;> (try simp only [hg]) <;> (try simp only [hgW] at hg)) <;> simp -implicitDefEqProofs only [outAV, hy, hm, h4', av_mk', AD.av, AD.cells, cs_mk, all_one, List.append_assoc, h1, h2, hl2, ml2, ha1, ha2, ht1, hd1, hg1, ht2, hd2, hg2, Int.cast_ofNat_Int, hn, go_sem, simprocAttr] <;> try (simp (disch := omega) only [wrW]; try simp -implicitDefEqProofs only [outAV, hy, hm, h4', av_mk', AD.av, AD.cells, cs_mk, all_one, List.append_assoc, h1, h2, hl2, ml2, ha1, ha2, ht1, hd1, hg1, ht2, hd2, hg2, Int.cast_ofNat_Int, hn, go_sem, simprocAttr]))
         | with_reducible refine And.intro (by first | omega | (simp only [hgW]; omega)) ?_
         | (exfalso; omega)
    · rw [if_pos he] at hR
      subst hR
      have hae := hnil.1 he
      subst hae
      simp only [av_mk', bytesAV, List.isEmpty_nil, List.map_nil] at c25
      repeat' first
       | with_reducible refine Rl.go (by constructor <;> decide) ?_
       | ((with_reducible first | refine hK _ ?_ | refine hK.1 ?_ | refine hK.2 ?_); clear hK K)
       | ((with_reducible refine condS hK (fun hg => ?_) fun hg => ?_) <;> clear hK K <;> (try simp only [hgW] at hg) <;> try (exfalso; omega))
       | ((first | ((with_reducible first | refine Rk.go k30_VsDWrite (by constructor) ?_ | refine Rm.go 17 k30_VsDWrite p30_17_VsDWrite a30_17_VsDWrite o30_17_VsDWrite mixed (by constructor) (by kernel_rfl) (by kernel_rfl) (by with_unfolding_all rfl) ?_); intro K hK) | with_reducible refine Rr.go [] (by constructor) ?_ | (with_reducible refine guardP_split (fun hg => ?_) fun hg => ?_) <;> (try simp only [hg]) <;> (try simp only [hgW] at hg) | refine Rc.go c25 (by constructor) ?_) <;> simp -implicitDefEqProofs only [outAV, he, AD.av, AD.cells, cs_mk, all_one, List.append_assoc, h1, h2, hl2, ml2, ha1, ha2, ht1, hd1, hg1, ht2, hd2, hg2, Int.cast_ofNat_Int, hn, go_sem, simprocAttr] <;> try (simp (disch := omega) only [wrW]; try simp -implicitDefEqProofs only [outAV, he, AD.av, AD.cells, cs_mk, all_one, List.append_assoc, h1, h2, hl2, ml2, ha1, ha2, ht1, hd1, hg1, ht2, hd2, hg2, Int.cast_ofNat_Int, hn, go_sem, simprocAttr]))
       | with_reducible refine And.intro (by first | omega | (simp only [hgW]; omega)) ?_
       | (exfalso; omega)
      all_goals trace_state
  · have hk2 : ¬ (xk : Int) = 6 := by omega
    rw [if_neg hk] at hR
    subst hR
    repeat' first
     | with_reducible refine Rl.go (by constructor <;> decide) ?_
     | ((with_reducible first | refine hK _ ?_ | refine hK.1 ?_ | refine hK.2 ?_); clear hK K)
     | ((with_reducible refine condS hK (fun hg => ?_) fun hg => ?_) <;> clear hK K <;> (try simp only [hgW] at hg) <;> try (exfalso; omega))
     | ((first | ((with_reducible first | refine Rk.go k30_VsDWrite (by constructor) ?_ | refine Rm.go 17 k30_VsDWrite p30_17_VsDWrite a30_17_VsDWrite o30_17_VsDWrite mixed (by constructor) (by kernel_rfl) (by kernel_rfl) (by with_unfolding_all rfl) ?_); intro K hK) | with_reducible refine Rr.go [] (by constructor) ?_ | (with_reducible refine guardP_split (fun hg => ?_) fun hg => ?_) <;> (try simp only [hg]) <;> (try simp only [hgW] at hg)) <;> simp -implicitDefEqProofs only [outAV, hk2, AD.av, AD.cells, cs_mk, all_one, List.append_assoc, h1, h2, hl2, ml2, ha1, ha2, ht1, hd1, hg1, ht2, hd2, hg2, Int.cast_ofNat_Int, hn, go_sem, simprocAttr] <;> try (simp (disch := omega) only [wrW]; try simp -implicitDefEqProofs only [outAV, hk2, AD.av, AD.cells, cs_mk, all_one, List.append_assoc, h1, h2, hl2, ml2, ha1, ha2, ht1, hd1, hg1, ht2, hd2, hg2, Int.cast_ofNat_Int, hn, go_sem, simprocAttr]))
     | with_reducible refine And.intro (by first | omega | (simp only [hgW]; omega)) ?_
     | (exfalso; omega)
    all_goals trace_state
end Go.Proofs.YtijcpdgfbboamaaDoor
open Go Go.VS
namespace Go.Proofs.YtijcpdgfbboamaaDoor
set_option linter.unusedVariables false
set_option linter.unusedSimpArgs false
set_option maxRecDepth 20000
set_option maxHeartbeats 4000000
theorem lenB_av (n : Nat) (h : n ≤ 128) : [AV.int .u8 ((n : Int) / 256), .int .u8 (n : Int)] = (lenB n).map u8 := by
  have e1 : (UInt8.ofNat (n / 256)).toNat = n / 256 := by simp; omega
  have e2 : (UInt8.ofNat n).toNat = n := by simp; omega
  simp only [lenB, List.map_cons, List.map_nil, u8, e1, e2]
  rw [show (n : Int) / 256 = ((n / 256 : Nat) : Int) by omega]
theorem accF_lt (p v h x : Bool) : accF p v h x 4 < 256 := by cases p <;> cases v <;> cases h <;> cases x <;> decide
def k30_VsDWrite2 : List Nat := [0,1,2,3,4,5,7,8,9,10,11,12,13,14,33,34,35,36,40,66,75,83,105,113,117,118,119,120,131]
def p30_17_VsDWrite2 : List Nat := []
def a30_17_VsDWrite2 : List Nat := [0,0,2,7,0,16,48,0,128,496,1023,0,2048,8191,16383]
def o30_17_VsDWrite2 : List (List Nat) := [[0,1,2,3,4,5,6,7,8,9,10,11,12,13,14],[4,5,6,7,8,9,0,1,2,3,10,11,12,13,14]]
attribute [go_sem] k30_VsDWrite2 p30_17_VsDWrite2 a30_17_VsDWrite2 o30_17_VsDWrite2
theorem f30_ok {valid : List UInt8 → Bool} (hv : ValidI valid) (d : AD) (hd : d.Wr) : CallsP Tryd.prog 30 [d.av] (outAV (writeS valid d)) := by
  obtain ⟨h1, h2, h3, h4, h5, h6, h7⟩ := hd
  obtain ⟨hs, p, v, h, cnt, ms, cn, cred, key, exts⟩ := d
  simp only at h1 h2 h3 h4 h5 h6 h7
  have c25 := f25_ok hv key h6
  have klen := enc_len2 valid key
  have knil := enc_nil valid key
  obtain ⟨kk, kn, kbn, kb', kkn, kks⟩ := key
  obtain ⟨xk, xn, xbn, xb, xkn, xks⟩ := exts
  have hl2 : (hs.map u8).length = 32 := by rw [List.length_map]; exact h1
  have ml2 : (ms.map u8).length = 16 := by rw [List.length_map]; exact h2
  have ht1 := ap_take hl2
  have hd1 := ap_drop hl2
  have hg1 := ap_get hl2
  have ht2 := ap_take ml2
  have hd2 := ap_drop ml2
  have hg2 := ap_get ml2
  have ha1 : ∀ l, List.take 32 (hs.map u8 ++ l) = hs.map u8 := fun l => by have := ht1 l 0; simpa using this
  have ha2 : ∀ l, List.take 16 (ms.map u8 ++ l) = ms.map u8 := fun l => by have := ht2 l 0; simpa using this
  have hx : decide ((xk : Int) = 6) = decide (xk = 6) := decide_eq_decide.2 (by omega)
  obtain ⟨x, hxx⟩ : ∃ x, decide (xk = 6) = x := ⟨_, rfl⟩
  have eW : writeS valid ⟨hs, p, v, h, cnt, ms, cn, cred, .mk kk kn kbn kb' kkn kks, .mk xk xn xbn xb xkn xks⟩ = if h = true then
      (if cred.length < 1 ∨ 128 < cred.length then ([], 60) else if (encS valid (.mk kk kn kbn kb' kkn kks)).2 ≠ 0 then ([], (encS valid (.mk kk kn kbn kb' kkn kks)).2)
        else extW valid ⟨hs, p, v, h, cnt, ms, cn, cred, .mk kk kn kbn kb' kkn kks, .mk xk xn xbn xb xkn xks⟩ (hs ++ UInt8.ofNat (accF p v h x 4) :: kb cnt ++ ms ++ lenB cred.length ++ cred ++ (encS valid (.mk kk kn kbn kb' kkn kks)).1))
      else extW valid ⟨hs, p, v, h, cnt, ms, cn, cred, .mk kk kn kbn kb' kkn kks, .mk xk xn xbn xb xkn xks⟩ (hs ++ UInt8.ofNat (accF p v h x 4) :: kb cnt) := by
    unfold writeS headD
    rw [← hxx]
    rfl
  obtain ⟨R, hR⟩ : ∃ R, writeS valid ⟨hs, p, v, h, cnt, ms, cn, cred, .mk kk kn kbn kb' kkn kks, .mk xk xn xbn xb xkn xks⟩ = R := ⟨_, rfl⟩
  rw [hR]
  rw [eW] at hR
  clear eW
  rw [hxx] at hx
  have T := fun (X : Ent) (hX : X.n = 137) => tail30 X hX hv hs ms h1 h2 p v h cnt cn cred kk kn kbn kkn kb' kks xk xn xbn xkn xb xks h7
  refine CallsP.introF Tryd.func30 rfl (by show 1 ≤ 137; decide) ?_
  rintro X hX
  have hn : X.n = 137 := hX
  unfold Tryd.f30
  dsimp only
  rw [entryB_0, entry1]
  repeat' first
   | with_reducible refine Rl.go (by constructor <;> decide) ?_
   | ((with_reducible first | refine hK _ ?_ | refine hK.1 ?_ | refine hK.2 ?_); clear hK K)
   | ((with_reducible refine condS hK (fun hg => ?_) fun hg => ?_) <;> clear hK K <;> (try simp only [hgW] at hg) <;> try (exfalso; omega))
   | ((first | ((with_reducible first | refine Rk.go k30_VsDWrite2 (by constructor) ?_ | refine Rm.go 17 k30_VsDWrite2 p30_17_VsDWrite2 a30_17_VsDWrite2 o30_17_VsDWrite2 mixed (by constructor) (by kernel_rfl) (by kernel_rfl) (by with_unfolding_all rfl) ?_); intro K hK) | with_reducible refine Rr.go [] (by constructor) ?_ | (with_reducible refine guardP_split (fun hg => ?_) fun hg => ?_) <;> (try simp only [hg]) <;> (try simp only [hgW] at hg)) <;> simp -implicitDefEqProofs only [hx, AD.av, AD.cells, cs_mk, all_one, List.append_assoc, h1, h2, hl2, ml2, ha1, ha2, ht1, hd1, hg1, ht2, hd2, hg2, Int.cast_ofNat_Int, hn, go_sem, simprocAttr] <;> try (simp (disch := omega) only [wrW]; try simp -implicitDefEqProofs only [hx, AD.av, AD.cells, cs_mk, all_one, List.append_assoc, h1, h2, hl2, ml2, ha1, ha2, ht1, hd1, hg1, ht2, hd2, hg2, Int.cast_ofNat_Int, hn, go_sem, simprocAttr]))
   | with_reducible refine And.intro (by first | omega | (simp only [hgW]; omega)) ?_
   | (exfalso; omega)
  refine AWP.loopX [1, 2, 3, 4, 5, 33, 34, 35] [7] (fun i : Nat => St.mk (lk [(1, .ptr 1 0), (2, .sl none true 1 []), (3, .int .i64 0), (4, .sl (some ((0, 15), 0)) false 1 (hs.map u8)), (5, .int .u8 ((accF p v h x i : Nat) : Int)),
        (33, .sl (some ((0, 33), 0)) false 2 [.agg [.bool p, .int .u8 1], .agg [.bool v, .int .u8 4], .agg [.bool h, .int .u8 64], .agg [.bool x, .int .u8 128]]), (34, .int .i64 4), (35, .int .i64 (i : Int))])
      (lkB [(1, hs.map u8 ++ .bool p :: .bool v :: .bool h :: .int .u32 (cnt : Int) :: (ms.map u8 ++ [.sl none cn 1 (cred.map u8), .int .u8 (kk : Int), .int .u64 (kn : Int), .sl none kbn 1 (kb'.map u8), .sl none kkn 4 (kks.map CI.av), .int .u8 (xk : Int), .int .u64 (xn : Int), .sl none xbn 1 (xb.map u8), .sl none xkn 4 (xks.map CI.av)]))]) (hasS []) (hasS []) (hasN []) (lkR []))
    (fun i => i ≤ 4) (fun i => 4 - i) 0 ?_ (by decide) ?_
  · simp -implicitDefEqProofs only [accF, Int.cast_ofNat_Int, hn, go_sem, simprocAttr]
    try rfl
  rintro i g1
  by_cases hi : i = 4
  · subst hi
    obtain ⟨fl, hfl⟩ : ∃ fl, UInt8.ofNat (accF p v h x 4) = fl := ⟨_, rfl⟩
    have hacc : ((accF p v h x 4 : Nat) : Int) = (fl.toNat : Int) := by
      rw [← hfl]
      have := accF_lt p v h x
      simp
      omega
    rw [hacc]
    rw [hfl] at hR
    have hka := kb_av cnt
    cases h with
    | false =>
      rw [if_neg (by decide)] at hR
      repeat' first
       | (with_reducible refine markD 19 ?_)
       | with_reducible refine Rl.go (by constructor <;> decide) ?_
       | ((with_reducible first | refine hK _ ?_ | refine hK.1 ?_ | refine hK.2 ?_); clear hK K)
       | ((with_reducible refine condS hK (fun hg => ?_) fun hg => ?_) <;> clear hK K <;> (try simp only [hgW] at hg) <;> try (exfalso; omega))
       | ((first | ((with_reducible first | refine Rk.go k30_VsDWrite2 (by constructor) ?_ | refine Rm.go 17 k30_VsDWrite2 p30_17_VsDWrite2 a30_17_VsDWrite2 o30_17_VsDWrite2 mixed (by constructor) (by kernel_rfl) (by kernel_rfl) (by with_unfolding_all rfl) ?_); intro K hK) | with_reducible refine Rr.go [] (by constructor) ?_ | (with_reducible refine guardP_split (fun hg => ?_) fun hg => ?_) <;> (try simp only [hg]) <;> (try simp only [hgW] at hg)) <;> simp -implicitDefEqProofs only [AD.av, AD.cells, cs_mk, all_one, List.append_assoc, h1, h2, hl2, ml2, ha1, ha2, ht1, hd1, hg1, ht2, hd2, hg2, Int.cast_ofNat_Int, hn, go_sem, simprocAttr] <;> try (simp (disch := omega) only [wrW]; try simp -implicitDefEqProofs only [AD.av, AD.cells, cs_mk, all_one, List.append_assoc, h1, h2, hl2, ml2, ha1, ha2, ht1, hd1, hg1, ht2, hd2, hg2, Int.cast_ofNat_Int, hn, go_sem, simprocAttr]))
       | with_reducible refine And.intro (by first | omega | (simp only [hgW]; omega)) ?_
       | (exfalso; omega)
      unfold MarkD
      refine AWP.slim [1, 2, 3, 4] [] ?_
      simp -implicitDefEqProofs only [Int.cast_ofNat_Int, hn, go_sem, simprocAttr]
      have T := T X hX (hs ++ fl :: kb cnt) (by simp [h1, kb])
      rw [List.map_append, List.map_cons, ← kb_av] at T
      rw [← hR]
      exact T
    | true =>
      rw [if_pos rfl] at hR
      by_cases hn2 : cred.length < 1 ∨ 128 < cred.length
      · rw [if_pos hn2] at hR
        subst hR
        repeat' first
         | (with_reducible refine markD 19 ?_)
         | with_reducible refine Rl.go (by constructor <;> decide) ?_
         | ((with_reducible first | refine hK _ ?_ | refine hK.1 ?_ | refine hK.2 ?_); clear hK K)
         | ((with_reducible refine condS hK (fun hg => ?_) fun hg => ?_) <;> clear hK K <;> (try simp only [hgW] at hg) <;> try (exfalso; omega))
         | ((first | ((with_reducible first | refine Rk.go k30_VsDWrite2 (by constructor) ?_ | refine Rm.go 17 k30_VsDWrite2 p30_17_VsDWrite2 a30_17_VsDWrite2 o30_17_VsDWrite2 mixed (by constructor) (by kernel_rfl) (by kernel_rfl) (by with_unfolding_all rfl) ?_); intro K hK) | with_reducible refine Rr.go [] (by constructor) ?_ | (with_reducible refine guardP_split (fun hg => ?_) fun hg => ?_) <;> (try simp only [hg]) <;> (try simp only [hgW] at hg)) <;> simp -implicitDefEqProofs only [outAV, AD.av, AD.cells, cs_mk, all_one, List.append_assoc, h1, h2, hl2, ml2, ha1, ha2, ht1, hd1, hg1, ht2, hd2, hg2, Int.cast_ofNat_Int, hn, go_sem, simprocAttr] <;> try (simp (disch := omega) only [wrW]; try simp -implicitDefEqProofs only [outAV, AD.av, AD.cells, cs_mk, all_one, List.append_assoc, h1, h2, hl2, ml2, ha1, ha2, ht1, hd1, hg1, ht2, hd2, hg2, Int.cast_ofNat_Int, hn, go_sem, simprocAttr]))
         | with_reducible refine And.intro (by first | omega | (simp only [hgW]; omega)) ?_
         | (exfalso; omega)
      rw [if_neg hn2] at hR
      obtain ⟨E, hE⟩ : ∃ E, encS valid (.mk kk kn kbn kb' kkn kks) = E := ⟨_, rfl⟩
      rw [hE] at hR c25 klen knil
      obtain ⟨a, e⟩ := E
      simp only at hR c25 klen knil
      by_cases he : e = 0
      · subst he
        rw [if_neg (by simp)] at hR
        have hae := knil.2 rfl
        simp only [av_mk', bytesAV, hae] at c25
        repeat' first
         | (with_reducible refine markD 19 ?_)
         | with_reducible refine Rl.go (by constructor <;> decide) ?_
         | ((with_reducible first | refine hK _ ?_ | refine hK.1 ?_ | refine hK.2 ?_); clear hK K)
         | ((with_reducible refine condS hK (fun hg => ?_) fun hg => ?_) <;> clear hK K <;> (try simp only [hgW] at hg) <;> try (exfalso; omega))
         | ((first | ((with_reducible first | refine Rk.go k30_VsDWrite2 (by constructor) ?_ | refine Rm.go 17 k30_VsDWrite2 p30_17_VsDWrite2 a30_17_VsDWrite2 o30_17_VsDWrite2 mixed (by constructor) (by kernel_rfl) (by kernel_rfl) (by with_unfolding_all rfl) ?_); intro K hK) | with_reducible refine Rr.go [] (by constructor) ?_ | (with_reducible refine guardP_split (fun hg => ?_) fun hg => ?_) <;> (try simp only [hg]) <;> (try simp only [hgW] at hg) | refine Rc.go c25 (by constructor) ?_) <;> simp -implicitDefEqProofs only [AD.av, AD.cells, cs_mk, all_one, List.append_assoc, h1, h2, hl2, ml2, ha1, ha2, ht1, hd1, hg1, ht2, hd2, hg2, Int.cast_ofNat_Int, hn, go_sem, simprocAttr] <;> try (simp (disch := omega) only [wrW]; try simp -implicitDefEqProofs only [AD.av, AD.cells, cs_mk, all_one, List.append_assoc, h1, h2, hl2, ml2, ha1, ha2, ht1, hd1, hg1, ht2, hd2, hg2, Int.cast_ofNat_Int, hn, go_sem, simprocAttr]))
         | with_reducible refine And.intro (by first | omega | (simp only [hgW]; omega)) ?_
         | (exfalso; omega)
        unfold MarkD
        refine AWP.slim [1, 2, 3, 4] [] ?_
        simp -implicitDefEqProofs only [Int.cast_ofNat_Int, hn, go_sem, simprocAttr]
        have T := T X hX (hs ++ fl :: kb cnt ++ ms ++ lenB cred.length ++ cred ++ a) (by simp [h1, h2, kb, lenB]; omega)
        have ho : (hs ++ fl :: kb cnt ++ ms ++ lenB cred.length ++ cred ++ a).map u8 = hs.map u8 ++ .int .u8 (fl.toNat : Int) :: .int .u8 (IntKind.u8.wrap ((cnt : Int).fdiv 16777216)) :: .int .u8 (IntKind.u8.wrap ((cnt : Int).fdiv 65536)) :: .int .u8 (IntKind.u8.wrap ((cnt : Int) / 256)) :: .int .u8 (IntKind.u8.wrap (cnt : Int)) ::
            (ms.map u8 ++ .int .u8 ((cred.length : Int) / 256) :: .int .u8 (cred.length : Int) :: (cred.map u8 ++ a.map u8)) := by
          simp only [List.map_append, List.map_cons, List.append_assoc, List.cons_append]
          rw [← kb_av, ← lenB_av _ (by omega)]
          rfl
        rw [ho] at T
        rw [← hR]
        exact T
      · rw [if_pos he] at hR
        subst hR
        have hae := knil.1 he
        subst hae
        simp only [av_mk', bytesAV, List.isEmpty_nil, List.map_nil] at c25
        repeat' first
         | (with_reducible refine markD 19 ?_)
         | with_reducible refine Rl.go (by constructor <;> decide) ?_
         | ((with_reducible first | refine hK _ ?_ | refine hK.1 ?_ | refine hK.2 ?_); clear hK K)
         | ((with_reducible refine condS hK (fun hg => ?_) fun hg => ?_) <;> clear hK K <;> (try simp only [hgW] at hg) <;> try (exfalso; omega))
         | ((first | ((with_reducible first | refine Rk.go k30_VsDWrite2 (by constructor) ?_ | refine Rm.go 17 k30_VsDWrite2 p30_17_VsDWrite2 a30_17_VsDWrite2 o30_17_VsDWrite2 mixed (by constructor) (by kernel_rfl) (by kernel_rfl) (by with_unfolding_all rfl) ?_); intro K hK) | with_reducible refine Rr.go [] (by constructor) ?_ | (with_reducible refine guardP_split (fun hg => ?_) fun hg => ?_) <;> (try simp only [hg]) <;> (try simp only [hgW] at hg) | refine Rc.go c25 (by constructor) ?_) <;> simp -implicitDefEqProofs only [outAV, he, AD.av, AD.cells, cs_mk, all_one, List.append_assoc, h1, h2, hl2, ml2, ha1, ha2, ht1, hd1, hg1, ht2, hd2, hg2, Int.cast_ofNat_Int, hn, go_sem, simprocAttr] <;> try (simp (disch := omega) only [wrW]; try simp -implicitDefEqProofs only [outAV, he, AD.av, AD.cells, cs_mk, all_one, List.append_assoc, h1, h2, hl2, ml2, ha1, ha2, ht1, hd1, hg1, ht2, hd2, hg2, Int.cast_ofNat_Int, hn, go_sem, simprocAttr]))
         | with_reducible refine And.intro (by first | omega | (simp only [hgW]; omega)) ?_
         | (exfalso; omega)
  rcases (show i = 0 ∨ i = 1 ∨ i = 2 ∨ i = 3 by omega) with rfl | rfl | rfl | rfl
  · cases p
    · skip
      repeat' first
       | with_reducible refine Rl.go (by constructor <;> decide) ?_
       | ((with_reducible first | refine hK _ ?_ | refine hK.1 ?_ | refine hK.2 ?_); clear hK K)
       | ((with_reducible refine condS hK (fun hg => ?_) fun hg => ?_) <;> clear hK K <;> (try simp only [hgW] at hg) <;> try (exfalso; omega))
       | ((first | ((with_reducible first | refine Rk.go k30_VsDWrite2 (by constructor) ?_ | refine Rm.go 17 k30_VsDWrite2 p30_17_VsDWrite2 a30_17_VsDWrite2 o30_17_VsDWrite2 mixed (by constructor) (by kernel_rfl) (by kernel_rfl) (by with_unfolding_all rfl) ?_); intro K hK) | with_reducible refine Rr.go [] (by constructor) ?_ | (with_reducible refine guardP_split (fun hg => ?_) fun hg => ?_) <;> (try simp only [hg]) <;> (try simp only [hgW] at hg)) <;> simp -implicitDefEqProofs only [AD.av, AD.cells, cs_mk, all_one, List.append_assoc, h1, h2, hl2, ml2, ha1, ha2, ht1, hd1, hg1, ht2, hd2, hg2, Int.cast_ofNat_Int, hn, go_sem, simprocAttr] <;> try (simp (disch := omega) only [wrW]; try simp -implicitDefEqProofs only [AD.av, AD.cells, cs_mk, all_one, List.append_assoc, h1, h2, hl2, ml2, ha1, ha2, ht1, hd1, hg1, ht2, hd2, hg2, Int.cast_ofNat_Int, hn, go_sem, simprocAttr]))
       | with_reducible refine And.intro (by first | omega | (simp only [hgW]; omega)) ?_
       | (exfalso; omega)
      refine ⟨1, ?_, by decide, by decide⟩
      simp -implicitDefEqProofs only [accF, Int.cast_ofNat_Int, hn, go_sem, simprocAttr]
      try rfl
    · skip
      repeat' first
       | with_reducible refine Rl.go (by constructor <;> decide) ?_
       | ((with_reducible first | refine hK _ ?_ | refine hK.1 ?_ | refine hK.2 ?_); clear hK K)
       | ((with_reducible refine condS hK (fun hg => ?_) fun hg => ?_) <;> clear hK K <;> (try simp only [hgW] at hg) <;> try (exfalso; omega))
       | ((first | ((with_reducible first | refine Rk.go k30_VsDWrite2 (by constructor) ?_ | refine Rm.go 17 k30_VsDWrite2 p30_17_VsDWrite2 a30_17_VsDWrite2 o30_17_VsDWrite2 mixed (by constructor) (by kernel_rfl) (by kernel_rfl) (by with_unfolding_all rfl) ?_); intro K hK) | with_reducible refine Rr.go [] (by constructor) ?_ | (with_reducible refine guardP_split (fun hg => ?_) fun hg => ?_) <;> (try simp only [hg]) <;> (try simp only [hgW] at hg)) <;> simp -implicitDefEqProofs only [AD.av, AD.cells, cs_mk, all_one, List.append_assoc, h1, h2, hl2, ml2, ha1, ha2, ht1, hd1, hg1, ht2, hd2, hg2, Int.cast_ofNat_Int, hn, go_sem, simprocAttr] <;> try (simp (disch := omega) only [wrW]; try simp -implicitDefEqProofs only [AD.av, AD.cells, cs_mk, all_one, List.append_assoc, h1, h2, hl2, ml2, ha1, ha2, ht1, hd1, hg1, ht2, hd2, hg2, Int.cast_ofNat_Int, hn, go_sem, simprocAttr]))
       | with_reducible refine And.intro (by first | omega | (simp only [hgW]; omega)) ?_
       | (exfalso; omega)
      refine ⟨1, ?_, by decide, by decide⟩
      simp -implicitDefEqProofs only [accF, Int.cast_ofNat_Int, hn, go_sem, simprocAttr]
      try rfl
  · cases v
    · skip
      repeat' first
       | with_reducible refine Rl.go (by constructor <;> decide) ?_
       | ((with_reducible first | refine hK _ ?_ | refine hK.1 ?_ | refine hK.2 ?_); clear hK K)
       | ((with_reducible refine condS hK (fun hg => ?_) fun hg => ?_) <;> clear hK K <;> (try simp only [hgW] at hg) <;> try (exfalso; omega))
       | ((first | ((with_reducible first | refine Rk.go k30_VsDWrite2 (by constructor) ?_ | refine Rm.go 17 k30_VsDWrite2 p30_17_VsDWrite2 a30_17_VsDWrite2 o30_17_VsDWrite2 mixed (by constructor) (by kernel_rfl) (by kernel_rfl) (by with_unfolding_all rfl) ?_); intro K hK) | with_reducible refine Rr.go [] (by constructor) ?_ | (with_reducible refine guardP_split (fun hg => ?_) fun hg => ?_) <;> (try simp only [hg]) <;> (try simp only [hgW] at hg)) <;> simp -implicitDefEqProofs only [AD.av, AD.cells, cs_mk, all_one, List.append_assoc, h1, h2, hl2, ml2, ha1, ha2, ht1, hd1, hg1, ht2, hd2, hg2, Int.cast_ofNat_Int, hn, go_sem, simprocAttr] <;> try (simp (disch := omega) only [wrW]; try simp -implicitDefEqProofs only [AD.av, AD.cells, cs_mk, all_one, List.append_assoc, h1, h2, hl2, ml2, ha1, ha2, ht1, hd1, hg1, ht2, hd2, hg2, Int.cast_ofNat_Int, hn, go_sem, simprocAttr]))
       | with_reducible refine And.intro (by first | omega | (simp only [hgW]; omega)) ?_
       | (exfalso; omega)
      refine ⟨2, ?_, by decide, by decide⟩
      simp -implicitDefEqProofs only [accF, Int.cast_ofNat_Int, hn, go_sem, simprocAttr]
      try rfl
    · skip
      repeat' first
       | with_reducible refine Rl.go (by constructor <;> decide) ?_
       | ((with_reducible first | refine hK _ ?_ | refine hK.1 ?_ | refine hK.2 ?_); clear hK K)
       | ((with_reducible refine condS hK (fun hg => ?_) fun hg => ?_) <;> clear hK K <;> (try simp only [hgW] at hg) <;> try (exfalso; omega))
       | ((first | ((with_reducible first | refine Rk.go k30_VsDWrite2 (by constructor) ?_ | refine Rm.go 17 k30_VsDWrite2 p30_17_VsDWrite2 a30_17_VsDWrite2 o30_17_VsDWrite2 mixed (by constructor) (by kernel_rfl) (by kernel_rfl) (by with_unfolding_all rfl) ?_); intro K hK) | with_reducible refine Rr.go [] (by constructor) ?_ | (with_reducible refine guardP_split (fun hg => ?_) fun hg => ?_) <;> (try simp only [hg]) <;> (try simp only [hgW] at hg)) <;> simp -implicitDefEqProofs only [accF, or_acc2, AD.av, AD.cells, cs_mk, all_one, List.append_assoc, h1, h2, hl2, ml2, ha1, ha2, ht1, hd1, hg1, ht2, hd2, hg2, Int.cast_ofNat_Int, hn, go_sem, simprocAttr] <;> try (simp (disch := omega) only [wrW]; try simp -implicitDefEqProofs only [accF, or_acc2, AD.av, AD.cells, cs_mk, all_one, List.append_assoc, h1, h2, hl2, ml2, ha1, ha2, ht1, hd1, hg1, ht2, hd2, hg2, Int.cast_ofNat_Int, hn, go_sem, simprocAttr]))
       | with_reducible refine And.intro (by first | omega | (simp only [hgW]; omega)) ?_
       | (exfalso; omega)
      refine ⟨2, ?_, by decide, by decide⟩
      simp -implicitDefEqProofs only [accF, Int.cast_ofNat_Int, hn, go_sem, simprocAttr]
      try rfl
  · cases h
    · skip
      repeat' first
       | with_reducible refine Rl.go (by constructor <;> decide) ?_
       | ((with_reducible first | refine hK _ ?_ | refine hK.1 ?_ | refine hK.2 ?_); clear hK K)
       | ((with_reducible refine condS hK (fun hg => ?_) fun hg => ?_) <;> clear hK K <;> (try simp only [hgW] at hg) <;> try (exfalso; omega))
       | ((first | ((with_reducible first | refine Rk.go k30_VsDWrite2 (by constructor) ?_ | refine Rm.go 17 k30_VsDWrite2 p30_17_VsDWrite2 a30_17_VsDWrite2 o30_17_VsDWrite2 mixed (by constructor) (by kernel_rfl) (by kernel_rfl) (by with_unfolding_all rfl) ?_); intro K hK) | with_reducible refine Rr.go [] (by constructor) ?_ | (with_reducible refine guardP_split (fun hg => ?_) fun hg => ?_) <;> (try simp only [hg]) <;> (try simp only [hgW] at hg)) <;> simp -implicitDefEqProofs only [AD.av, AD.cells, cs_mk, all_one, List.append_assoc, h1, h2, hl2, ml2, ha1, ha2, ht1, hd1, hg1, ht2, hd2, hg2, Int.cast_ofNat_Int, hn, go_sem, simprocAttr] <;> try (simp (disch := omega) only [wrW]; try simp -implicitDefEqProofs only [AD.av, AD.cells, cs_mk, all_one, List.append_assoc, h1, h2, hl2, ml2, ha1, ha2, ht1, hd1, hg1, ht2, hd2, hg2, Int.cast_ofNat_Int, hn, go_sem, simprocAttr]))
       | with_reducible refine And.intro (by first | omega | (simp only [hgW]; omega)) ?_
       | (exfalso; omega)
      refine ⟨3, ?_, by decide, by decide⟩
      simp -implicitDefEqProofs only [accF, Int.cast_ofNat_Int, hn, go_sem, simprocAttr]
      try rfl
    · skip
      repeat' first
       | with_reducible refine Rl.go (by constructor <;> decide) ?_
       | ((with_reducible first | refine hK _ ?_ | refine hK.1 ?_ | refine hK.2 ?_); clear hK K)
       | ((with_reducible refine condS hK (fun hg => ?_) fun hg => ?_) <;> clear hK K <;> (try simp only [hgW] at hg) <;> try (exfalso; omega))
       | ((first | ((with_reducible first | refine Rk.go k30_VsDWrite2 (by constructor) ?_ | refine Rm.go 17 k30_VsDWrite2 p30_17_VsDWrite2 a30_17_VsDWrite2 o30_17_VsDWrite2 mixed (by constructor) (by kernel_rfl) (by kernel_rfl) (by with_unfolding_all rfl) ?_); intro K hK) | with_reducible refine Rr.go [] (by constructor) ?_ | (with_reducible refine guardP_split (fun hg => ?_) fun hg => ?_) <;> (try simp only [hg]) <;> (try simp only [hgW] at hg)) <;> simp -implicitDefEqProofs only [accF, or_acc3, AD.av, AD.cells, cs_mk, all_one, List.append_assoc, h1, h2, hl2, ml2, ha1, ha2, ht1, hd1, hg1, ht2, hd2, hg2, Int.cast_ofNat_Int, hn, go_sem, simprocAttr] <;> try (simp (disch := omega) only [wrW]; try simp -implicitDefEqProofs only [accF, or_acc3, AD.av, AD.cells, cs_mk, all_one, List.append_assoc, h1, h2, hl2, ml2, ha1, ha2, ht1, hd1, hg1, ht2, hd2, hg2, Int.cast_ofNat_Int, hn, go_sem, simprocAttr]))
       | with_reducible refine And.intro (by first | omega | (simp only [hgW]; omega)) ?_
       | (exfalso; omega)
      refine ⟨3, ?_, by decide, by decide⟩
      simp -implicitDefEqProofs only [accF, Int.cast_ofNat_Int, hn, go_sem, simprocAttr]
      try rfl
  · cases x
    · skip
      repeat' first
       | with_reducible refine Rl.go (by constructor <;> decide) ?_
       | ((with_reducible first | refine hK _ ?_ | refine hK.1 ?_ | refine hK.2 ?_); clear hK K)
       | ((with_reducible refine condS hK (fun hg => ?_) fun hg => ?_) <;> clear hK K <;> (try simp only [hgW] at hg) <;> try (exfalso; omega))
       | ((first | ((with_reducible first | refine Rk.go k30_VsDWrite2 (by constructor) ?_ | refine Rm.go 17 k30_VsDWrite2 p30_17_VsDWrite2 a30_17_VsDWrite2 o30_17_VsDWrite2 mixed (by constructor) (by kernel_rfl) (by kernel_rfl) (by with_unfolding_all rfl) ?_); intro K hK) | with_reducible refine Rr.go [] (by constructor) ?_ | (with_reducible refine guardP_split (fun hg => ?_) fun hg => ?_) <;> (try simp only [hg]) <;> (try simp only [hgW] at hg)) <;> simp -implicitDefEqProofs only [AD.av, AD.cells, cs_mk, all_one, List.append_assoc, h1, h2, hl2, ml2, ha1, ha2, ht1, hd1, hg1, ht2, hd2, hg2, Int.cast_ofNat_Int, hn, go_sem, simprocAttr] <;> try (simp (disch := omega) only [wrW]; try simp -implicitDefEqProofs only [AD.av, AD.cells, cs_mk, all_one, List.append_assoc, h1, h2, hl2, ml2, ha1, ha2, ht1, hd1, hg1, ht2, hd2, hg2, Int.cast_ofNat_Int, hn, go_sem, simprocAttr]))
       | with_reducible refine And.intro (by first | omega | (simp only [hgW]; omega)) ?_
       | (exfalso; omega)
      refine ⟨4, ?_, by decide, by decide⟩
      simp -implicitDefEqProofs only [accF, Int.cast_ofNat_Int, hn, go_sem, simprocAttr]
      try rfl
    · skip
      repeat' first
       | with_reducible refine Rl.go (by constructor <;> decide) ?_
       | ((with_reducible first | refine hK _ ?_ | refine hK.1 ?_ | refine hK.2 ?_); clear hK K)
       | ((with_reducible refine condS hK (fun hg => ?_) fun hg => ?_) <;> clear hK K <;> (try simp only [hgW] at hg) <;> try (exfalso; omega))
       | ((first | ((with_reducible first | refine Rk.go k30_VsDWrite2 (by constructor) ?_ | refine Rm.go 17 k30_VsDWrite2 p30_17_VsDWrite2 a30_17_VsDWrite2 o30_17_VsDWrite2 mixed (by constructor) (by kernel_rfl) (by kernel_rfl) (by with_unfolding_all rfl) ?_); intro K hK) | with_reducible refine Rr.go [] (by constructor) ?_ | (with_reducible refine guardP_split (fun hg => ?_) fun hg => ?_) <;> (try simp only [hg]) <;> (try simp only [hgW] at hg)) <;> simp -implicitDefEqProofs only [accF, or_acc4, AD.av, AD.cells, cs_mk, all_one, List.append_assoc, h1, h2, hl2, ml2, ha1, ha2, ht1, hd1, hg1, ht2, hd2, hg2, Int.cast_ofNat_Int, hn, go_sem, simprocAttr] <;> try (simp (disch := omega) only [wrW]; try simp -implicitDefEqProofs only [accF, or_acc4, AD.av, AD.cells, cs_mk, all_one, List.append_assoc, h1, h2, hl2, ml2, ha1, ha2, ht1, hd1, hg1, ht2, hd2, hg2, Int.cast_ofNat_Int, hn, go_sem, simprocAttr]))
       | with_reducible refine And.intro (by first | omega | (simp only [hgW]; omega)) ?_
       | (exfalso; omega)
      refine ⟨4, ?_, by decide, by decide⟩
      simp -implicitDefEqProofs only [accF, Int.cast_ofNat_Int, hn, go_sem, simprocAttr]
      try rfl
end Go.Proofs.YtijcpdgfbboamaaDoor
