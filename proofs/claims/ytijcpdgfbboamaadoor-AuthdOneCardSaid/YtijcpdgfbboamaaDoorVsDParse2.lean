/- What Parse comes to. -/
import Derived.Test.YtijcpdgfbboamaaDoorVsDParse
open Go Go.VS
namespace Go.Proofs.YtijcpdgfbboamaaDoor
set_option linter.unusedVariables false
set_option linter.unusedSimpArgs false
set_option maxRecDepth 20000
set_option maxHeartbeats 4000000
def k24_VsDParse2 : List Nat := [0,2,3,4,5,7,8,9,10,11,21,43,44,45,46,60,63,92,110,115,124,130,134,135,136,137,148,153]
def a24_18_VsDParse2 : List Nat := [0,1,3,7,15,0,32,96,224,511,1023]
def o24_18_VsDParse2 : List Nat := [0,1,2,3,4,5,6,7,8,9,10]
attribute [go_sem] k24_VsDParse2 a24_18_VsDParse2 o24_18_VsDParse2
theorem f24_short (nb : Bool) (b : List UInt8) (hs : b.length < 37) : CallsP Tryd.prog 24 [.sl none nb 1 (b.map u8)] (.tup [AD.zero.av, .int .i64 60]) := by
  refine CallsP.introF Tryd.func24 rfl (by show 1 ≤ 156; decide) ?_
  rintro X hX
  have hn : X.n = 156 := hX
  unfold Tryd.f24
  dsimp only
  rw [entryB_0, entry1]
  repeat' first
   | with_reducible refine Rl.go (by constructor <;> decide) ?_
   | ((with_reducible first | refine hK _ ?_ | refine hK.1 ?_ | refine hK.2 ?_); clear hK K)
   | ((with_reducible refine condS hK (fun hg => ?_) fun hg => ?_) <;> clear hK K <;> (try simp only [hgW] at hg) <;> try (exfalso; omega))
   | ((first | ((with_reducible first | refine Rk.go k24_VsDParse2 (by constructor) ?_ | refine Rd.go 18 k24_VsDParse2 a24_18_VsDParse2 o24_18_VsDParse2 mixed (by constructor) (by kernel_rfl) (by kernel_rfl) ?_); intro K hK) | with_reducible refine Rr.go [] (by constructor) ?_ | (with_reducible refine guardP_split (fun hg => ?_) fun hg => ?_) <;> (try simp only [hg]) <;> (try simp only [hgW] at hg)) <;> simp -implicitDefEqProofs only [AD.av, AD.cells, AD.zero, z32_u8, z16_u8, cs_zero, Int.cast_ofNat_Int, hn, go_sem, simprocAttr] <;> try (simp (disch := omega) only [wrW]; try simp -implicitDefEqProofs only [AD.av, AD.cells, AD.zero, z32_u8, z16_u8, cs_zero, Int.cast_ofNat_Int, hn, go_sem, simprocAttr]))
   | with_reducible refine And.intro (by first | omega | (simp only [hgW]; omega)) ?_
   | (exfalso; omega)
theorem f24_bad (nb : Bool) (b : List UInt8) (hs : ¬ b.length < 37) (hb : badF (b.getD 32 default) = true) : CallsP Tryd.prog 24 [.sl none nb 1 (b.map u8)] (.tup [AD.zero.av, .int .i64 60]) := by
  refine CallsP.introF Tryd.func24 rfl (by show 1 ≤ 156; decide) ?_
  rintro X hX
  have hn : X.n = 156 := hX
  unfold Tryd.f24
  dsimp only
  rw [entryB_0, entry1]
  repeat' first
   | with_reducible refine Rl.go (by constructor <;> decide) ?_
   | ((with_reducible first | refine hK _ ?_ | refine hK.1 ?_ | refine hK.2 ?_); clear hK K)
   | ((with_reducible refine condS hK (fun hg => ?_) fun hg => ?_) <;> clear hK K <;> (try simp only [hgW] at hg) <;> try (exfalso; omega))
   | ((first | ((with_reducible first | refine Rk.go k24_VsDParse2 (by constructor) ?_ | refine Rd.go 18 k24_VsDParse2 a24_18_VsDParse2 o24_18_VsDParse2 mixed (by constructor) (by kernel_rfl) (by kernel_rfl) ?_); intro K hK) | with_reducible refine Rr.go [] (by constructor) ?_ | (with_reducible refine guardP_split (fun hg => ?_) fun hg => ?_) <;> (try simp only [hg]) <;> (try simp only [hgW] at hg)) <;> simp -implicitDefEqProofs only [fBad, hb, Bool.not_not, u8, AD.av, AD.cells, AD.zero, z32_u8, z16_u8, cs_zero, Int.cast_ofNat_Int, hn, go_sem, simprocAttr] <;> try (simp (disch := omega) only [wrW]; try simp -implicitDefEqProofs only [fBad, hb, Bool.not_not, u8, AD.av, AD.cells, AD.zero, z32_u8, z16_u8, cs_zero, Int.cast_ofNat_Int, hn, go_sem, simprocAttr]))
   | with_reducible refine And.intro (by first | omega | (simp only [hgW]; omega)) ?_
   | (exfalso; omega)
theorem f24_free {valid : List UInt8 → Bool} (hv : ValidOk valid) (hs : List UInt8) (hlen : hs.length = 32) (f c0 c1 c2 c3 : UInt8) (r : List UInt8) (hb : badF f = false) (hl : r.length ≤ 100000) (hf : bit f 64 = false) (R : AD × Nat)
    (hR : extS valid f ⟨hs, bit f 1, bit f 4, false, be [c0, c1, c2, c3], z16, true, [], .zero, .zero⟩ r = R) :
    CallsP Tryd.prog 24 [.sl none false 1 ((hs ++ f :: c0 :: c1 :: c2 :: c3 :: r).map u8)] (.tup [R.1.av, .int .i64 (R.2 : Int)]) := by
  have hl2 : (hs.map u8).length = 32 := by rw [List.length_map]; exact hlen
  have ht1 := ap_take hlen (l := f :: c0 :: c1 :: c2 :: c3 :: r)
  have hd1 := ap_drop hlen (l := f :: c0 :: c1 :: c2 :: c3 :: r)
  have hg1 := ap_getD hlen (l := f :: c0 :: c1 :: c2 :: c3 :: r) (d := default)
  have ht2 := ap_take hl2
  have hd2 := ap_drop hl2
  have hg2 := ap_get hl2
  have T := fun (X : Ent) (hX : X.n = 156) => tail24 X hX hv f hs z16 hlen rfl (bit f 1) (bit f 4) false (be [c0, c1, c2, c3]) true [] 0 0 true true [] [] false r (fun h => by cases h) hl
  refine CallsP.introF Tryd.func24 rfl (by show 1 ≤ 156; decide) ?_
  rintro X hX
  have hn : X.n = 156 := hX
  unfold Tryd.f24
  dsimp only
  rw [entryB_0, entry1]
  repeat' first
   | (with_reducible refine markS 26 ?_)
   | with_reducible (first | refine Rl.go (by constructor <;> decide) ?_ | refine AWP.loopT 5 ?_ | refine AWP.unroll 5 ?_)
   | ((with_reducible first | refine hK _ ?_ | refine hK.1 ?_ | refine hK.2 ?_); clear hK K)
   | ((with_reducible refine condS hK (fun hg => ?_) fun hg => ?_) <;> clear hK K <;> (try simp only [hgW] at hg) <;> try (exfalso; omega))
   | ((first | ((with_reducible first | refine Rk.go k24_VsDParse2 (by constructor) ?_ | refine Rd.go 18 k24_VsDParse2 a24_18_VsDParse2 o24_18_VsDParse2 mixed (by constructor) (by kernel_rfl) (by kernel_rfl) ?_); intro K hK) | with_reducible refine Rr.go [] (by constructor) ?_ | (with_reducible refine guardP_split (fun hg => ?_) fun hg => ?_) <;> (try simp only [hg]) <;> (try simp only [hgW] at hg)) <;> simp -implicitDefEqProofs only [hb, fBad, f1, f4, f64, hf, Bool.not_not, hlen, hl2, ht1, hd1, hg1, ht2, hd2, hg2, List.append_assoc, u8, z16_u8, Int.cast_ofNat_Int, hn, go_sem, simprocAttr] <;> try (simp (disch := omega) only [wrW]; try simp -implicitDefEqProofs only [hb, fBad, f1, f4, f64, hf, Bool.not_not, hlen, hl2, ht1, hd1, hg1, ht2, hd2, hg2, List.append_assoc, u8, z16_u8, Int.cast_ofNat_Int, hn, go_sem, simprocAttr]))
   | with_reducible refine And.intro (by first | omega | (simp only [hgW]; omega)) ?_
   | (exfalso; omega)
  unfold MarkP
  refine AWP.slim [0, 2, 3, 4, 5] [] ?_
  have hr : 32 + (r.length + 1 + 1 + 1 + 1 + 1) - 37 = r.length := by omega
  simp -implicitDefEqProofs only [hr, cnt4, Int.cast_ofNat_Int, hn, go_sem, simprocAttr]
  have T := T X hX
  rw [z16_u8] at T
  simp only [zAD, List.cons_append, List.nil_append, List.map_nil] at T
  rw [← hR]
  exact T
theorem f24_h18 (hs : List UInt8) (hlen : hs.length = 32) (f c0 c1 c2 c3 : UInt8) (r : List UInt8) (hb : badF f = false) (hl : r.length < 18) (hf : bit f 64 = true) :
    CallsP Tryd.prog 24 [.sl none false 1 ((hs ++ f :: c0 :: c1 :: c2 :: c3 :: r).map u8)] (.tup [AD.zero.av, .int .i64 60]) := by
  have hl2 : (hs.map u8).length = 32 := by rw [List.length_map]; exact hlen
  have ht1 := ap_take hlen (l := f :: c0 :: c1 :: c2 :: c3 :: r)
  have hd1 := ap_drop hlen (l := f :: c0 :: c1 :: c2 :: c3 :: r)
  have hg1 := ap_getD hlen (l := f :: c0 :: c1 :: c2 :: c3 :: r) (d := default)
  have ht2 := ap_take hl2
  have hd2 := ap_drop hl2
  have hg2 := ap_get hl2
  have hr : 32 + (r.length + 1 + 1 + 1 + 1 + 1) - 37 = r.length := by omega
  refine CallsP.introF Tryd.func24 rfl (by show 1 ≤ 156; decide) ?_
  rintro X hX
  have hn : X.n = 156 := hX
  unfold Tryd.f24
  dsimp only
  rw [entryB_0, entry1]
  repeat' first
   | with_reducible (first | refine Rl.go (by constructor <;> decide) ?_ | refine AWP.loopT 5 ?_ | refine AWP.unroll 5 ?_)
   | ((with_reducible first | refine hK _ ?_ | refine hK.1 ?_ | refine hK.2 ?_); clear hK K)
   | ((with_reducible refine condS hK (fun hg => ?_) fun hg => ?_) <;> clear hK K <;> (try simp only [hgW] at hg) <;> try (exfalso; omega))
   | ((first | ((with_reducible first | refine Rk.go k24_VsDParse2 (by constructor) ?_ | refine Rd.go 18 k24_VsDParse2 a24_18_VsDParse2 o24_18_VsDParse2 mixed (by constructor) (by kernel_rfl) (by kernel_rfl) ?_); intro K hK) | with_reducible refine Rr.go [] (by constructor) ?_ | (with_reducible refine guardP_split (fun hg => ?_) fun hg => ?_) <;> (try simp only [hg]) <;> (try simp only [hgW] at hg)) <;> simp -implicitDefEqProofs only [hb, hr, fBad, f1, f4, f64, hf, Bool.not_not, hlen, hl2, ht1, hd1, hg1, ht2, hd2, hg2, List.append_assoc, u8, AD.av, AD.cells, AD.zero, z32_u8, z16_u8, cs_zero, Int.cast_ofNat_Int, hn, go_sem, simprocAttr] <;> try (simp (disch := omega) only [wrW]; try simp -implicitDefEqProofs only [hb, hr, fBad, f1, f4, f64, hf, Bool.not_not, hlen, hl2, ht1, hd1, hg1, ht2, hd2, hg2, List.append_assoc, u8, AD.av, AD.cells, AD.zero, z32_u8, z16_u8, cs_zero, Int.cast_ofNat_Int, hn, go_sem, simprocAttr]))
   | with_reducible refine And.intro (by first | omega | (simp only [hgW]; omega)) ?_
   | (exfalso; omega)
theorem f24_hn (hs : List UInt8) (hlen : hs.length = 32) (f c0 c1 c2 c3 : UInt8) (ms : List UInt8) (mlen : ms.length = 16) (n0 n1 : UInt8) (q : List UInt8) (hb : badF f = false) (hl : q.length ≤ 100000) (hf : bit f 64 = true)
    (hbad : n0.toNat * 256 + n1.toNat < 1 ∨ 128 < n0.toNat * 256 + n1.toNat ∨ q.length < n0.toNat * 256 + n1.toNat) :
    CallsP Tryd.prog 24 [.sl none false 1 ((hs ++ f :: c0 :: c1 :: c2 :: c3 :: (ms ++ n0 :: n1 :: q)).map u8)] (.tup [AD.zero.av, .int .i64 60]) := by
  have hl2 : (hs.map u8).length = 32 := by rw [List.length_map]; exact hlen
  have ml2 : (ms.map u8).length = 16 := by rw [List.length_map]; exact mlen
  have ht1 := ap_take hlen (l := f :: c0 :: c1 :: c2 :: c3 :: (ms ++ n0 :: n1 :: q))
  have hd1 := ap_drop hlen (l := f :: c0 :: c1 :: c2 :: c3 :: (ms ++ n0 :: n1 :: q))
  have hg1 := ap_getD hlen (l := f :: c0 :: c1 :: c2 :: c3 :: (ms ++ n0 :: n1 :: q)) (d := default)
  have ht2 := ap_take hl2
  have hd2 := ap_drop hl2
  have hg2 := ap_get hl2
  have mt1 := ap_take mlen (l := n0 :: n1 :: q)
  have md1 := ap_drop mlen (l := n0 :: n1 :: q)
  have mg1 := ap_getD mlen (l := n0 :: n1 :: q) (d := default)
  have mt2 := ap_take ml2
  have md2 := ap_drop ml2
  have mg2 := ap_get ml2
  have hr : 32 + (16 + (q.length + 1 + 1) + 1 + 1 + 1 + 1 + 1) - 37 = (ms ++ n0 :: n1 :: q).length := by simp [mlen]; omega
  have hr2 : 16 + (q.length + 1 + 1) - 18 = q.length := by omega
  have h0 := n0.toNat_lt
  have h1 := n1.toNat_lt
  refine CallsP.introF Tryd.func24 rfl (by show 1 ≤ 156; decide) ?_
  rintro X hX
  have hn : X.n = 156 := hX
  unfold Tryd.f24
  dsimp only
  rw [entryB_0, entry1]
  repeat' first
   | with_reducible (first | refine Rl.go (by constructor <;> decide) ?_ | refine AWP.loopT 5 ?_ | refine AWP.unroll 5 ?_)
   | ((with_reducible first | refine hK _ ?_ | refine hK.1 ?_ | refine hK.2 ?_); clear hK K)
   | ((with_reducible refine condS hK (fun hg => ?_) fun hg => ?_) <;> clear hK K <;> (try simp only [hgW] at hg) <;> try (exfalso; omega))
   | ((first | ((with_reducible first | refine Rk.go k24_VsDParse2 (by constructor) ?_ | refine Rd.go 18 k24_VsDParse2 a24_18_VsDParse2 o24_18_VsDParse2 mixed (by constructor) (by kernel_rfl) (by kernel_rfl) ?_); intro K hK) | with_reducible refine Rr.go [] (by constructor) ?_ | (with_reducible refine guardP_split (fun hg => ?_) fun hg => ?_) <;> (try simp only [hg]) <;> (try simp only [hgW] at hg)) <;> simp -implicitDefEqProofs only [hb, hr, hr2, fBad, f1, f4, f64, hf, Bool.not_not, hlen, mlen, hl2, ml2, ht1, hd1, hg1, ht2, hd2, hg2, mt1, md1, mg1, mt2, md2, mg2, List.append_assoc, u8, AD.av, AD.cells, AD.zero, z32_u8, z16_u8, cs_zero, Int.cast_ofNat_Int, hn, go_sem, simprocAttr] <;> try (simp (disch := omega) only [wrW]; try simp -implicitDefEqProofs only [hb, hr, hr2, fBad, f1, f4, f64, hf, Bool.not_not, hlen, mlen, hl2, ml2, ht1, hd1, hg1, ht2, hd2, hg2, mt1, md1, mg1, mt2, md2, mg2, List.append_assoc, u8, AD.av, AD.cells, AD.zero, z32_u8, z16_u8, cs_zero, Int.cast_ofNat_Int, hn, go_sem, simprocAttr]))
   | with_reducible refine And.intro (by first | omega | (simp only [hgW]; omega)) ?_
   | (exfalso; omega)
  all_goals trace_state
end Go.Proofs.YtijcpdgfbboamaaDoor
