/- What Parse comes to, where a credential is within. -/
import Derived.Test.YtijcpdgfbboamaaDoorVsDParse2
open Go Go.VS
namespace Go.Proofs.YtijcpdgfbboamaaDoor
set_option linter.unusedVariables false
set_option linter.unusedSimpArgs false
set_option maxRecDepth 20000
set_option maxHeartbeats 4000000
def k24_VsDParse3 : List Nat := [0,2,3,4,5,7,8,9,10,11,21,43,44,45,46,60,63,92,110,115,124,130,134,135,136,137,148,153]
def a24_18_VsDParse3 : List Nat := [0,1,3,7,15,0,32,96,224,511,1023]
def o24_18_VsDParse3 : List Nat := [0,1,2,3,4,5,6,7,8,9,10]
attribute [go_sem] k24_VsDParse3 a24_18_VsDParse3 o24_18_VsDParse3
theorem f24_key {valid : List UInt8 → Bool} (hv : ValidOk valid) (hs : List UInt8) (hlen : hs.length = 32) (f c0 c1 c2 c3 : UInt8) (ms : List UInt8) (mlen : ms.length = 16) (n0 n1 : UInt8) (q : List UInt8) (hb : badF f = false) (hl : q.length ≤ 100000) (hf : bit f 64 = true)
    (N : Nat) (hN : N = n0.toNat * 256 + n1.toNat) (h1 : 1 ≤ N) (h2 : N ≤ 128) (h3 : N ≤ q.length) (he : (decS valid (q.drop N)).2.2 ≠ 0) :
    CallsP Tryd.prog 24 [.sl none false 1 ((hs ++ f :: c0 :: c1 :: c2 :: c3 :: (ms ++ n0 :: n1 :: q)).map u8)] (.tup [AD.zero.av, .int .i64 ((decS valid (q.drop N)).2.2 : Int)]) := by
  have hl2 : (hs.map u8).length = 32 := by rw [List.length_map]; exact hlen
  have ml2 : (ms.map u8).length = 16 := by rw [List.length_map]; exact mlen
  have ht1 := ap_take hlen (l := f :: c0 :: c1 :: c2 :: c3 :: (ms ++ n0 :: n1 :: q))
  have hd1 := ap_drop hlen (l := f :: c0 :: c1 :: c2 :: c3 :: (ms ++ n0 :: n1 :: q))
  have hg1 := ap_getD hlen (l := f :: c0 :: c1 :: c2 :: c3 :: (ms ++ n0 :: n1 :: q)) (d := default)
  have ht2 := ap_take hl2
  have hd2 := ap_drop hl2
  have hg2 := ap_get hl2
  have mt1 := ap_take mlen (l := n0 :: n1 :: q)
  have md1 := ap_drop mlen (l := n0 :: n1 :: q)
  have mg1 := ap_getD mlen (l := n0 :: n1 :: q) (d := default)
  have mt2 := ap_take ml2
  have md2 := ap_drop ml2
  have mg2 := ap_get ml2
  have hr : 32 + (16 + (q.length + 1 + 1) + 1 + 1 + 1 + 1 + 1) - 37 = 16 + (q.length + 1 + 1) := by omega
  have htk : List.take (16 + (q.length + 1 + 1)) (ms ++ n0 :: n1 :: q) = ms ++ n0 :: n1 :: q := List.take_of_length_le (by simp [mlen])
  have hr2 : 16 + (q.length + 1 + 1) - 18 = q.length := by omega
  have hNi : (n0.toNat : Int) * 256 + n1.toNat = (N : Int) := by omega
  have c26 := f26_ok hv false (q.drop N) (fun h => by cases h)
  obtain ⟨D, hD⟩ : ∃ D, decS valid (q.drop N) = D := ⟨_, rfl⟩
  rw [hD] at c26 he ⊢
  obtain ⟨x, o, e⟩ := D
  obtain ⟨xk, xn, xbn, xb, xkn, xks⟩ := x
  simp only at c26 he ⊢
  have hq2 : q.length - N = (q.drop N).length := by rw [List.length_drop]
  cases o with
  | none =>
    simp only [restAV, av_mk'] at c26
    refine CallsP.introF Tryd.func24 rfl (by show 1 ≤ 156; decide) ?_
    rintro X hX
    have hn : X.n = 156 := hX
    unfold Tryd.f24
    dsimp only
    rw [entryB_0, entry1]
    repeat' first
     | with_reducible (first | refine Rl.go (by constructor <;> decide) ?_ | refine AWP.loopT 5 ?_ | refine AWP.unroll 5 ?_)
     | ((with_reducible first | refine hK _ ?_ | refine hK.1 ?_ | refine hK.2 ?_); clear hK K)
     | ((with_reducible refine condS hK (fun hg => ?_) fun hg => ?_) <;> clear hK K <;> (try simp only [hgW] at hg) <;> try (exfalso; omega))
     | ((first | ((with_reducible first | refine Rk.go k24_VsDParse3 (by constructor) ?_ | refine Rd.go 18 k24_VsDParse3 a24_18_VsDParse3 o24_18_VsDParse3 mixed (by constructor) (by kernel_rfl) (by kernel_rfl) ?_); intro K hK) | with_reducible refine Rr.go [] (by constructor) ?_ | (with_reducible refine guardP_split (fun hg => ?_) fun hg => ?_) <;> (try simp only [hg]) <;> (try simp only [hgW] at hg) | refine Rc.go c26 (by constructor) ?_) <;> simp -implicitDefEqProofs only [hb, hr, htk, hr2, hNi, hq2, fBad, f1, f4, f64, hf, Bool.not_not, hlen, mlen, hl2, ml2, ht1, hd1, hg1, ht2, hd2, hg2, mt1, md1, mg1, mt2, md2, mg2, List.append_assoc, u8, AD.av, AD.cells, AD.zero, z32_u8, z16_u8, cs_zero, Int.cast_ofNat_Int, hn, go_sem, simprocAttr] <;> try (simp (disch := omega) only [wrW]; try simp -implicitDefEqProofs only [hb, hr, htk, hr2, hNi, hq2, fBad, f1, f4, f64, hf, Bool.not_not, hlen, mlen, hl2, ml2, ht1, hd1, hg1, ht2, hd2, hg2, mt1, md1, mg1, mt2, md2, mg2, List.append_assoc, u8, AD.av, AD.cells, AD.zero, z32_u8, z16_u8, cs_zero, Int.cast_ofNat_Int, hn, go_sem, simprocAttr]))
     | with_reducible refine And.intro (by first | omega | (simp only [hgW]; omega)) ?_
     | (exfalso; omega)
    all_goals trace_state
  | some l =>
    simp only [restAV, av_mk'] at c26
    refine CallsP.introF Tryd.func24 rfl (by show 1 ≤ 156; decide) ?_
    rintro X hX
    have hn : X.n = 156 := hX
    unfold Tryd.f24
    dsimp only
    rw [entryB_0, entry1]
    repeat' first
     | with_reducible (first | refine Rl.go (by constructor <;> decide) ?_ | refine AWP.loopT 5 ?_ | refine AWP.unroll 5 ?_)
     | ((with_reducible first | refine hK _ ?_ | refine hK.1 ?_ | refine hK.2 ?_); clear hK K)
     | ((with_reducible refine condS hK (fun hg => ?_) fun hg => ?_) <;> clear hK K <;> (try simp only [hgW] at hg) <;> try (exfalso; omega))
     | ((first | ((with_reducible first | refine Rk.go k24_VsDParse3 (by constructor) ?_ | refine Rd.go 18 k24_VsDParse3 a24_18_VsDParse3 o24_18_VsDParse3 mixed (by constructor) (by kernel_rfl) (by kernel_rfl) ?_); intro K hK) | with_reducible refine Rr.go [] (by constructor) ?_ | (with_reducible refine guardP_split (fun hg => ?_) fun hg => ?_) <;> (try simp only [hg]) <;> (try simp only [hgW] at hg) | refine Rc.go c26 (by constructor) ?_) <;> simp -implicitDefEqProofs only [hb, hr, htk, hr2, hNi, hq2, fBad, f1, f4, f64, hf, Bool.not_not, hlen, mlen, hl2, ml2, ht1, hd1, hg1, ht2, hd2, hg2, mt1, md1, mg1, mt2, md2, mg2, List.append_assoc, u8, AD.av, AD.cells, AD.zero, z32_u8, z16_u8, cs_zero, Int.cast_ofNat_Int, hn, go_sem, simprocAttr] <;> try (simp (disch := omega) only [wrW]; try simp -implicitDefEqProofs only [hb, hr, htk, hr2, hNi, hq2, fBad, f1, f4, f64, hf, Bool.not_not, hlen, mlen, hl2, ml2, ht1, hd1, hg1, ht2, hd2, hg2, mt1, md1, mg1, mt2, md2, mg2, List.append_assoc, u8, AD.av, AD.cells, AD.zero, z32_u8, z16_u8, cs_zero, Int.cast_ofNat_Int, hn, go_sem, simprocAttr]))
     | with_reducible refine And.intro (by first | omega | (simp only [hgW]; omega)) ?_
     | (exfalso; omega)
    all_goals trace_state
end Go.Proofs.YtijcpdgfbboamaaDoor
