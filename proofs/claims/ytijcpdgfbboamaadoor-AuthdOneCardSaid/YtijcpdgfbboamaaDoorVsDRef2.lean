/- What the document's Data comes to, from the credential on. -/
import Derived.Test.YtijcpdgfbboamaaDoorVsDRef
import Derived.Test.YtijcpdgfbboamaaDoorVsDParse4
open Go Go.VS
namespace Go.Proofs.YtijcpdgfbboamaaDoor
set_option linter.unusedVariables false
set_option linter.unusedSimpArgs false
set_option maxRecDepth 20000
set_option maxHeartbeats 4000000
/-- A row, so far written. -/
def zb (hs : List UInt8) (i : Nat) : List UInt8 := hs.take i ++ List.replicate (hs.length - i) 0
theorem zb_len (hs : List UInt8) (i : Nat) (h : i ≤ hs.length) : (zb hs i).length = hs.length := by simp [zb]; omega
theorem zb_all (hs : List UInt8) : zb hs hs.length = hs := by simp [zb]
theorem zb_take (hs : List UInt8) (i : Nat) (h : i < hs.length) (L : List AV) : List.take i ((zb hs i).map u8 ++ L) = (hs.take i).map u8 := by
  have h1 : (zb hs i).length = hs.length := zb_len hs i (by omega)
  have hti : (hs.take i).length = i := by rw [List.length_take]; omega
  rw [List.take_append_of_le_length (by rw [List.length_map, h1]; omega), ← List.map_take]
  unfold zb
  have := ap_take hti (List.replicate (hs.length - i) 0) 0
  rw [Nat.zero_add] at this
  rw [this]
  simp
def zr (n : Nat) : List UInt8 := List.replicate n 0
theorem zb_drop (hs : List UInt8) (i : Nat) (h : i < hs.length) (L : List AV) : List.drop (i + 1) ((zb hs i).map u8 ++ L) = (zr (hs.length - (i + 1))).map u8 ++ L := by
  have h1 : (zb hs i).length = hs.length := zb_len hs i (by omega)
  have hti : (hs.take i).length = i := by rw [List.length_take]; omega
  rw [List.drop_append_of_le_length (by rw [List.length_map, h1]; omega), ← List.map_drop]
  unfold zb
  rw [Nat.add_comm, ap_drop hti, List.drop_replicate]
  rw [show hs.length - i - 1 = hs.length - (1 + i) by omega]
  rfl
theorem zb_next (hs : List UInt8) (i : Nat) (h : i < hs.length) : (zb hs (i + 1)).map u8 = (hs.take i).map u8 ++ .int .u8 ((hs.getD i default).toNat : Int) :: (zr (hs.length - (i + 1))).map u8 := by
  unfold zb
  rw [List.take_succ_eq_append_getElem h, List.getD_eq_getElem?_getD, List.getElem?_eq_getElem h, List.append_assoc, List.map_append]
  rfl
def k37_VsDRef2 : List Nat := [0,2,3,4,5,7,8,9,10,11,12,13,14,15,16,17,18,19,22,29,30,31,32,39,56,67,83,86,90,123,139,148,156,161,169]
def a37_19_VsDRef2 : List Nat := [0,1,3,0,0,24,56,120,255,511,1023]
def o37_19_VsDRef2 : List Nat := [0,1,2,3,4,5,6,7,8,9,10]
def a37_28_VsDRef2 : List Nat := [0,1,3,7,15,0,32,96,224,511,1023]
def o37_28_VsDRef2 : List Nat := [0,1,2,3,4,5,6,7,8,9,10]
attribute [go_sem] k37_VsDRef2 a37_19_VsDRef2 o37_19_VsDRef2 a37_28_VsDRef2 o37_28_VsDRef2
theorem tail37h (X : Ent) (hX : X.n = 173) {valid : List UInt8 → Bool} (hv : ValidOk valid) (f : UInt8) (hs : List UInt8) (hlen : hs.length = 32) (p v : Bool) (cnt : Nat) (r : List UInt8) (hl : r.length ≤ 100000) :
    AWP Tryd.prog X (tl (tl (tl (tl (tl (tl (tl (tl (tl ((Tryd.f37.body).getD .skip)))))))))) (retSF Tryd.prog Tryd.f37.results.toList 0 (.tup [(heldS valid f ⟨hs, p, v, bit f 64, cnt, z16, true, [], .zero, .zero⟩ r).1.av, .int .i64 ((heldS valid f ⟨hs, p, v, bit f 64, cnt, z16, true, [], .zero, .zero⟩ r).2 : Int)]) [])
      (St.mk (lk [(2, .ptr 2 0), (3, .int .i64 0), (4, .int .i64 60), (5, .int .i64 (f.toNat : Int)), (8, .ptr 8 0), (11, .sl none false 1 (r.map u8))])
        (lkB [(2, zAD), (8, hs.map u8 ++ [.bool p, .bool v, .bool (bit f 64), .int .u32 (cnt : Int), .int .u8 0, .int .u8 0, .int .u8 0, .int .u8 0, .int .u8 0, .int .u8 0, .int .u8 0, .int .u8 0, .int .u8 0, .int .u8 0, .int .u8 0, .int .u8 0, .int .u8 0, .int .u8 0, .int .u8 0, .int .u8 0, .sl none true 1 [], .int .u8 0, .int .u64 0, .sl none true 1 [], .sl none true 4 [], .int .u8 0, .int .u64 0, .sl none true 1 [], .sl none true 4 []])]) (hasS []) (hasS []) (hasN []) (lkR [])) := by
  have hn : X.n = 173 := hX
  have hl2 : (hs.map u8).length = 32 := by rw [List.length_map]; exact hlen
  have ht1 := ap_take hl2
  have hd1 := ap_drop hl2
  have hg1 := ap_get hl2
  have hfl := f.toNat_lt
  obtain ⟨R, hR⟩ : ∃ R, heldS valid f ⟨hs, p, v, bit f 64, cnt, z16, true, [], .zero, .zero⟩ r = R := ⟨_, rfl⟩
  rw [hR]
  show AWP Tryd.prog X (tl (tl (tl (tl (tl (tl (tl (tl (tl ((Tryd.f37.body).getD .skip)))))))))) (retSF Tryd.prog Tryd.f37.results.toList 0 (.tup [R.1.av, .int .i64 (R.2 : Int)]) []) _
  unfold Tryd.f37
  dsimp only [tl, Option.getD_some]
  by_cases hf : bit f 64 = true
  · rw [hf] at hR ⊢
    by_cases h18 : r.length < 18
    · have e : heldS valid f ⟨hs, p, v, true, cnt, z16, true, [], .zero, .zero⟩ r = (.zero, 60) := by unfold heldS; rw [if_pos hf, if_pos h18]
      rw [e] at hR
      subst hR
      repeat' first
       | with_reducible refine Rl.go (by constructor <;> decide) ?_
       | ((with_reducible first | refine hK _ ?_ | refine hK.1 ?_ | refine hK.2 ?_); clear hK K)
       | ((with_reducible refine condS hK (fun hg => ?_) fun hg => ?_) <;> clear hK K <;> (try simp only [hgW] at hg) <;> try (exfalso; omega))
       | ((first | ((with_reducible first | refine Rk.go k37_VsDRef2 (by constructor) ?_ | refine Rd.go 19 k37_VsDRef2 a37_19_VsDRef2 o37_19_VsDRef2 mixed (by constructor) (by kernel_rfl) (by kernel_rfl) ?_ | refine Rd.go 28 k37_VsDRef2 a37_28_VsDRef2 o37_28_VsDRef2 mixed (by constructor) (by kernel_rfl) (by kernel_rfl) ?_); intro K hK) | with_reducible refine Rr.go [] (by constructor) ?_ | (with_reducible refine guardP_split (fun hg => ?_) fun hg => ?_) <;> (try simp only [hg]) <;> (try simp only [hgW] at hg)) <;> simp -implicitDefEqProofs only [List.append_assoc, hl2, hlen, ht1, hd1, hg1, zAD, AD.av, AD.cells, AD.zero, z32_u8, z16_u8, cs_zero, Int.cast_ofNat_Int, hn, go_sem, simprocAttr] <;> try (simp (disch := omega) only [wrW]; try simp -implicitDefEqProofs only [List.append_assoc, hl2, hlen, ht1, hd1, hg1, zAD, AD.av, AD.cells, AD.zero, z32_u8, z16_u8, cs_zero, Int.cast_ofNat_Int, hn, go_sem, simprocAttr]))
       | with_reducible refine And.intro (by first | omega | (simp only [hgW]; omega)) ?_
       | (exfalso; omega)
    obtain ⟨ms, n0, n1, q, mlen, rfl⟩ := cut16 r (by omega)
    have hl3 : q.length ≤ 100000 := by simp at hl; omega
    rw [heldS_cut valid f _ mlen n0 n1 q hf _ rfl] at hR
    have mgi : ∀ i, i < 16 → (ms ++ n0 :: n1 :: q).getD i default = ms.getD i default := fun i hi => by
      rw [List.getD_eq_getElem?_getD, List.getElem?_append_left (by omega), ← List.getD_eq_getElem?_getD]
    have ml2 : (ms.map u8).length = 16 := by rw [List.length_map]; exact mlen
    have mt1 := ap_take mlen (l := n0 :: n1 :: q)
    have md1 := ap_drop mlen (l := n0 :: n1 :: q)
    have mg1 := ap_getD mlen (l := n0 :: n1 :: q) (d := default)
    have mt2 := ap_take ml2
    have md2 := ap_drop ml2
    have mg2 := ap_get ml2
    repeat' first
     | with_reducible refine Rl.go (by constructor <;> decide) ?_
     | ((with_reducible first | refine hK _ ?_ | refine hK.1 ?_ | refine hK.2 ?_); clear hK K)
     | ((with_reducible refine condS hK (fun hg => ?_) fun hg => ?_) <;> clear hK K <;> (try simp only [hgW] at hg) <;> try (exfalso; omega))
     | ((first | ((with_reducible first | refine Rk.go k37_VsDRef2 (by constructor) ?_ | refine Rd.go 19 k37_VsDRef2 a37_19_VsDRef2 o37_19_VsDRef2 mixed (by constructor) (by kernel_rfl) (by kernel_rfl) ?_ | refine Rd.go 28 k37_VsDRef2 a37_28_VsDRef2 o37_28_VsDRef2 mixed (by constructor) (by kernel_rfl) (by kernel_rfl) ?_); intro K hK) | with_reducible refine Rr.go [] (by constructor) ?_ | (with_reducible refine guardP_split (fun hg => ?_) fun hg => ?_) <;> (try simp only [hg]) <;> (try simp only [hgW] at hg)) <;> simp -implicitDefEqProofs only [List.append_assoc, hl2, hlen, mlen, ht1, hd1, hg1, zAD, Int.cast_ofNat_Int, hn, go_sem, simprocAttr] <;> try (simp (disch := omega) only [wrW]; try simp -implicitDefEqProofs only [List.append_assoc, hl2, hlen, mlen, ht1, hd1, hg1, zAD, Int.cast_ofNat_Int, hn, go_sem, simprocAttr]))
     | with_reducible refine And.intro (by first | omega | (simp only [hgW]; omega)) ?_
     | (exfalso; omega)
    have hz0 : (zb ms 0).map u8 = [.int .u8 0, .int .u8 0, .int .u8 0, .int .u8 0, .int .u8 0, .int .u8 0, .int .u8 0, .int .u8 0, .int .u8 0, .int .u8 0, .int .u8 0, .int .u8 0, .int .u8 0, .int .u8 0, .int .u8 0, .int .u8 0] := by
      unfold zb
      rw [mlen]
      rfl
    refine AWP.loopX [2, 3, 4, 5, 8, 11, 12] [] (fun i : Nat => St.mk (lk [(2, .ptr 2 0), (3, .int .i64 0), (4, .int .i64 60), (5, .int .i64 (f.toNat : Int)), (8, .ptr 8 0), (11, .sl none false 1 ((ms ++ n0 :: n1 :: q).map u8)), (12, .int .i64 (i : Int))])
        (lkB [(2, zAD), (8, hs.map u8 ++ .bool p :: .bool v :: .bool true :: .int .u32 (cnt : Int) :: ((zb ms i).map u8 ++ [.sl none true 1 [], .int .u8 0, .int .u64 0, .sl none true 1 [], .sl none true 4 [], .int .u8 0, .int .u64 0, .sl none true 1 [], .sl none true 4 []]))]) (hasS []) (hasS []) (hasN []) (lkR []))
      (fun i => i ≤ 16) (fun i => 16 - i) 0 ?_ (by decide) ?_
    · simp -implicitDefEqProofs only [zAD, hz0, Int.cast_ofNat_Int, hn, go_sem, simprocAttr]
      try rfl
    rintro i h1
    by_cases hi : i = 16
    · subst hi
      have hza : zb ms 16 = ms := by rw [← mlen]; exact zb_all ms
      rw [hza]
      have h0' := n0.toNat_lt
      have h1' := n1.toNat_lt
      obtain ⟨N, hN⟩ : ∃ N, n0.toNat * 256 + n1.toNat = N := ⟨_, rfl⟩
      rw [hN] at hR
      have hNi : (256 : Int) * n0.toNat + n1.toNat = (N : Int) := by omega
      have hr2 : 16 + (q.length + 1 + 1) - 18 = q.length := by omega
      have hq2 : q.length - N = (q.drop N).length := by rw [List.length_drop]
      by_cases hn2 : N < 1 ∨ 128 < N ∨ q.length < N
      · rw [if_pos hn2] at hR
        subst hR
        repeat' first
         | with_reducible refine Rl.go (by constructor <;> decide) ?_
         | ((with_reducible first | refine hK _ ?_ | refine hK.1 ?_ | refine hK.2 ?_); clear hK K)
         | ((with_reducible refine condS hK (fun hg => ?_) fun hg => ?_) <;> clear hK K <;> (try simp only [hgW] at hg) <;> try (exfalso; omega))
         | ((first | ((with_reducible first | refine Rk.go k37_VsDRef2 (by constructor) ?_ | refine Rd.go 19 k37_VsDRef2 a37_19_VsDRef2 o37_19_VsDRef2 mixed (by constructor) (by kernel_rfl) (by kernel_rfl) ?_ | refine Rd.go 28 k37_VsDRef2 a37_28_VsDRef2 o37_28_VsDRef2 mixed (by constructor) (by kernel_rfl) (by kernel_rfl) ?_); intro K hK) | with_reducible refine Rr.go [] (by constructor) ?_ | (with_reducible refine guardP_split (fun hg => ?_) fun hg => ?_) <;> (try simp only [hg]) <;> (try simp only [hgW] at hg)) <;> simp -implicitDefEqProofs only [hNi, hr2, List.append_assoc, u8, hl2, hlen, mlen, ml2, ht1, hd1, hg1, mt1, md1, mg1, mt2, md2, mg2, zAD, AD.av, AD.cells, AD.zero, z32_u8, z16_u8, cs_zero, Int.cast_ofNat_Int, hn, go_sem, simprocAttr] <;> try (simp (disch := omega) only [wrW]; try simp -implicitDefEqProofs only [hNi, hr2, List.append_assoc, u8, hl2, hlen, mlen, ml2, ht1, hd1, hg1, mt1, md1, mg1, mt2, md2, mg2, zAD, AD.av, AD.cells, AD.zero, z32_u8, z16_u8, cs_zero, Int.cast_ofNat_Int, hn, go_sem, simprocAttr]))
         | with_reducible refine And.intro (by first | omega | (simp only [hgW]; omega)) ?_
         | (exfalso; omega)
      rw [if_neg hn2] at hR
      have c33 := f33_ok hv false (q.drop N) (fun h => by cases h)
      have hso := dec_some valid (q.drop N)
      obtain ⟨D, hD⟩ : ∃ D, decS valid (q.drop N) = D := ⟨_, rfl⟩
      rw [hD] at hR c33 hso
      obtain ⟨x, o, e⟩ := D
      obtain ⟨xk, xn, xbn, xb, xkn, xks⟩ := x
      simp only at hR c33 hso
      by_cases he : e = 0
      · subst he
        rw [if_neg (by simp)] at hR
        obtain ⟨l, rfl, hll⟩ := hso rfl
        rw [List.length_drop] at hll
        simp only [restAV, av_mk', Option.getD_some] at c33 hR
        have T := tail37 X hX hv f hs ms hlen mlen p v true cnt false (q.take N) xk xn xbn xkn xb xks false l (fun h => by cases h) (by omega)
        repeat' first
         | (with_reducible refine markS 38 ?_)
         | with_reducible refine Rl.go (by constructor <;> decide) ?_
         | ((with_reducible first | refine hK _ ?_ | refine hK.1 ?_ | refine hK.2 ?_); clear hK K)
         | ((with_reducible refine condS hK (fun hg => ?_) fun hg => ?_) <;> clear hK K <;> (try simp only [hgW] at hg) <;> try (exfalso; omega))
         | ((first | ((with_reducible first | refine Rk.go k37_VsDRef2 (by constructor) ?_ | refine Rd.go 19 k37_VsDRef2 a37_19_VsDRef2 o37_19_VsDRef2 mixed (by constructor) (by kernel_rfl) (by kernel_rfl) ?_ | refine Rd.go 28 k37_VsDRef2 a37_28_VsDRef2 o37_28_VsDRef2 mixed (by constructor) (by kernel_rfl) (by kernel_rfl) ?_); intro K hK) | with_reducible refine Rr.go [] (by constructor) ?_ | (with_reducible refine guardP_split (fun hg => ?_) fun hg => ?_) <;> (try simp only [hg]) <;> (try simp only [hgW] at hg) | refine Rc.go c33 (by constructor) ?_) <;> simp -implicitDefEqProofs only [hNi, hr2, hq2, List.append_assoc, u8, hl2, hlen, mlen, ml2, ht1, hd1, hg1, mt1, md1, mg1, mt2, md2, mg2, zAD, Int.cast_ofNat_Int, hn, go_sem, simprocAttr] <;> try (simp (disch := omega) only [wrW]; try simp -implicitDefEqProofs only [hNi, hr2, hq2, List.append_assoc, u8, hl2, hlen, mlen, ml2, ht1, hd1, hg1, mt1, md1, mg1, mt2, md2, mg2, zAD, Int.cast_ofNat_Int, hn, go_sem, simprocAttr]))
         | with_reducible refine And.intro (by first | omega | (simp only [hgW]; omega)) ?_
         | (exfalso; omega)
        unfold MarkP
        refine AWP.slim [2, 3, 4, 5, 8, 11] [14] ?_
        simp -implicitDefEqProofs only [Int.cast_ofNat_Int, hn, go_sem, simprocAttr]
        simp only [zAD] at T
        rw [← hR]
        exact T
      · rw [if_pos he] at hR
        subst hR
        cases o with
        | none =>
          simp only [restAV, av_mk'] at c33
          repeat' first
           | with_reducible refine Rl.go (by constructor <;> decide) ?_
           | ((with_reducible first | refine hK _ ?_ | refine hK.1 ?_ | refine hK.2 ?_); clear hK K)
           | ((with_reducible refine condS hK (fun hg => ?_) fun hg => ?_) <;> clear hK K <;> (try simp only [hgW] at hg) <;> try (exfalso; omega))
           | ((first | ((with_reducible first | refine Rk.go k37_VsDRef2 (by constructor) ?_ | refine Rd.go 19 k37_VsDRef2 a37_19_VsDRef2 o37_19_VsDRef2 mixed (by constructor) (by kernel_rfl) (by kernel_rfl) ?_ | refine Rd.go 28 k37_VsDRef2 a37_28_VsDRef2 o37_28_VsDRef2 mixed (by constructor) (by kernel_rfl) (by kernel_rfl) ?_); intro K hK) | with_reducible refine Rr.go [] (by constructor) ?_ | (with_reducible refine guardP_split (fun hg => ?_) fun hg => ?_) <;> (try simp only [hg]) <;> (try simp only [hgW] at hg) | refine Rc.go c33 (by constructor) ?_) <;> simp -implicitDefEqProofs only [hNi, hr2, hq2, List.append_assoc, u8, hl2, hlen, mlen, ml2, ht1, hd1, hg1, mt1, md1, mg1, mt2, md2, mg2, zAD, AD.av, AD.cells, AD.zero, z32_u8, z16_u8, cs_zero, Int.cast_ofNat_Int, hn, go_sem, simprocAttr] <;> try (simp (disch := omega) only [wrW]; try simp -implicitDefEqProofs only [hNi, hr2, hq2, List.append_assoc, u8, hl2, hlen, mlen, ml2, ht1, hd1, hg1, mt1, md1, mg1, mt2, md2, mg2, zAD, AD.av, AD.cells, AD.zero, z32_u8, z16_u8, cs_zero, Int.cast_ofNat_Int, hn, go_sem, simprocAttr]))
           | with_reducible refine And.intro (by first | omega | (simp only [hgW]; omega)) ?_
           | (exfalso; omega)
        | some l =>
          simp only [restAV, av_mk'] at c33
          repeat' first
           | with_reducible refine Rl.go (by constructor <;> decide) ?_
           | ((with_reducible first | refine hK _ ?_ | refine hK.1 ?_ | refine hK.2 ?_); clear hK K)
           | ((with_reducible refine condS hK (fun hg => ?_) fun hg => ?_) <;> clear hK K <;> (try simp only [hgW] at hg) <;> try (exfalso; omega))
           | ((first | ((with_reducible first | refine Rk.go k37_VsDRef2 (by constructor) ?_ | refine Rd.go 19 k37_VsDRef2 a37_19_VsDRef2 o37_19_VsDRef2 mixed (by constructor) (by kernel_rfl) (by kernel_rfl) ?_ | refine Rd.go 28 k37_VsDRef2 a37_28_VsDRef2 o37_28_VsDRef2 mixed (by constructor) (by kernel_rfl) (by kernel_rfl) ?_); intro K hK) | with_reducible refine Rr.go [] (by constructor) ?_ | (with_reducible refine guardP_split (fun hg => ?_) fun hg => ?_) <;> (try simp only [hg]) <;> (try simp only [hgW] at hg) | refine Rc.go c33 (by constructor) ?_) <;> simp -implicitDefEqProofs only [hNi, hr2, hq2, List.append_assoc, u8, hl2, hlen, mlen, ml2, ht1, hd1, hg1, mt1, md1, mg1, mt2, md2, mg2, zAD, AD.av, AD.cells, AD.zero, z32_u8, z16_u8, cs_zero, Int.cast_ofNat_Int, hn, go_sem, simprocAttr] <;> try (simp (disch := omega) only [wrW]; try simp -implicitDefEqProofs only [hNi, hr2, hq2, List.append_assoc, u8, hl2, hlen, mlen, ml2, ht1, hd1, hg1, mt1, md1, mg1, mt2, md2, mg2, zAD, AD.av, AD.cells, AD.zero, z32_u8, z16_u8, cs_zero, Int.cast_ofNat_Int, hn, go_sem, simprocAttr]))
           | with_reducible refine And.intro (by first | omega | (simp only [hgW]; omega)) ?_
           | (exfalso; omega)
    have hgi := mgi i (by omega)
    have hcm : 36 + i = i + 36 := by omega
    have hzt := zb_take ms i (by omega)
    have hzd := zb_drop ms i (by omega)
    have hzn := zb_next ms i (by omega)
    rw [mlen] at hzd hzn
    have hti : (ms.take i).length = i := by rw [List.length_take]; omega
    have hzrl : (zr (16 - (i + 1))).length = 16 - (i + 1) := by simp [zr]
    have hzl : (zb ms i).length = 16 := by rw [zb_len ms i (by omega), mlen]
    have e2 : (i : Int) + 1 = ((i + 1 : Nat) : Int) := by omega
    repeat' first
     | with_reducible refine Rl.go (by constructor <;> decide) ?_
     | ((with_reducible first | refine hK _ ?_ | refine hK.1 ?_ | refine hK.2 ?_); clear hK K)
     | ((with_reducible refine condS hK (fun hg => ?_) fun hg => ?_) <;> clear hK K <;> (try simp only [hgW] at hg) <;> try (exfalso; omega))
     | ((first | ((with_reducible first | refine Rk.go k37_VsDRef2 (by constructor) ?_ | refine Rd.go 19 k37_VsDRef2 a37_19_VsDRef2 o37_19_VsDRef2 mixed (by constructor) (by kernel_rfl) (by kernel_rfl) ?_ | refine Rd.go 28 k37_VsDRef2 a37_28_VsDRef2 o37_28_VsDRef2 mixed (by constructor) (by kernel_rfl) (by kernel_rfl) ?_); intro K hK) | with_reducible refine Rr.go [] (by constructor) ?_ | (with_reducible refine guardP_split (fun hg => ?_) fun hg => ?_) <;> (try simp only [hg]) <;> (try simp only [hgW] at hg)) <;> simp -implicitDefEqProofs only [hgi, hcm, hzt, hzd, hzl, hti, hzrl, List.append_assoc, u8, hl2, hlen, mlen, ht1, hd1, hg1, Int.cast_ofNat_Int, hn, go_sem, simprocAttr] <;> try (simp (disch := omega) only [wrW]; try simp -implicitDefEqProofs only [hgi, hcm, hzt, hzd, hzl, hti, hzrl, List.append_assoc, u8, hl2, hlen, mlen, ht1, hd1, hg1, Int.cast_ofNat_Int, hn, go_sem, simprocAttr]))
     | with_reducible refine And.intro (by first | omega | (simp only [hgW]; omega)) ?_
     | (exfalso; omega)
    refine ⟨i + 1, ?_, by omega, by omega⟩
    rw [e2]
    simp -implicitDefEqProofs only [zAD, hzn, List.append_assoc, Int.cast_ofNat_Int, hn, go_sem, simprocAttr]
    try rfl
  · have hf0 : bit f 64 = false := by simpa using hf
    have hb : (f.toNat : Int) / 64 % 2 = 0 := by
      have : ¬ f.toNat / 64 % 2 = 1 := by simpa [bit] using hf
      omega
    have e : heldS valid f ⟨hs, p, v, bit f 64, cnt, z16, true, [], .zero, .zero⟩ r = extS valid f ⟨hs, p, v, bit f 64, cnt, z16, true, [], .zero, .zero⟩ r := by unfold heldS; rw [if_neg hf]
    rw [e, hf0] at hR
    rw [hf0]
    have T := tail37 X hX hv f hs z16 hlen rfl p v false cnt true [] 0 0 true true [] [] false r (fun h => by cases h) hl
    repeat' first
     | (with_reducible refine markS 38 ?_)
     | with_reducible refine Rl.go (by constructor <;> decide) ?_
     | ((with_reducible first | refine hK _ ?_ | refine hK.1 ?_ | refine hK.2 ?_); clear hK K)
     | ((with_reducible refine condS hK (fun hg => ?_) fun hg => ?_) <;> clear hK K <;> (try simp only [hgW] at hg) <;> try (exfalso; omega))
     | ((first | ((with_reducible first | refine Rk.go k37_VsDRef2 (by constructor) ?_ | refine Rd.go 19 k37_VsDRef2 a37_19_VsDRef2 o37_19_VsDRef2 mixed (by constructor) (by kernel_rfl) (by kernel_rfl) ?_ | refine Rd.go 28 k37_VsDRef2 a37_28_VsDRef2 o37_28_VsDRef2 mixed (by constructor) (by kernel_rfl) (by kernel_rfl) ?_); intro K hK) | with_reducible refine Rr.go [] (by constructor) ?_ | (with_reducible refine guardP_split (fun hg => ?_) fun hg => ?_) <;> (try simp only [hg]) <;> (try simp only [hgW] at hg)) <;> simp -implicitDefEqProofs only [List.append_assoc, hl2, hlen, ht1, hd1, hg1, Int.cast_ofNat_Int, hn, go_sem, simprocAttr] <;> try (simp (disch := omega) only [wrW]; try simp -implicitDefEqProofs only [List.append_assoc, hl2, hlen, ht1, hd1, hg1, Int.cast_ofNat_Int, hn, go_sem, simprocAttr]))
     | with_reducible refine And.intro (by first | omega | (simp only [hgW]; omega)) ?_
     | (exfalso; omega)
    unfold MarkP
    refine AWP.slim [2, 3, 4, 5, 8, 11] [] ?_
    simp -implicitDefEqProofs only [Int.cast_ofNat_Int, hn, go_sem, simprocAttr]
    rw [z16_u8] at T
    simp only [List.cons_append, List.nil_append, List.map_nil] at T
    rw [← hR]
    exact T
end Go.Proofs.YtijcpdgfbboamaaDoor
