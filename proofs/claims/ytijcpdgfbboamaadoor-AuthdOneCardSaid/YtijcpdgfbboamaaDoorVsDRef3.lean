/- What the document's Data comes to. -/
import Derived.Test.YtijcpdgfbboamaaDoorVsDRef2
open Go Go.VS
namespace Go.Proofs.YtijcpdgfbboamaaDoor
set_option linter.unusedVariables false
set_option linter.unusedSimpArgs false
set_option maxRecDepth 20000
set_option maxHeartbeats 4000000
theorem bit_i (c : UInt8) (k : Nat) : decide ((c.toNat : Int) / (k : Int) % 2 = 1) = bit c k := by
  unfold bit
  exact decide_eq_decide.2 (by omega)
theorem bit_1 (c : UInt8) : decide ((c.toNat : Int) % 2 = 1) = bit c 1 := by
  unfold bit
  rw [Nat.div_one]
  exact decide_eq_decide.2 (by omega)
def k37_VsDRef3 : List Nat := [0,2,3,4,5,7,8,9,10,11,12,13,14,15,16,17,18,19,22,29,30,31,32,39,56,67,83,86,90,123,139,148,156,161,169]
def a37_19_VsDRef3 : List Nat := [0,1,3,0,0,24,56,120,255,511,1023]
def o37_19_VsDRef3 : List Nat := [0,1,2,3,4,5,6,7,8,9,10]
def a37_28_VsDRef3 : List Nat := [0,1,3,7,15,0,32,96,224,511,1023]
def o37_28_VsDRef3 : List Nat := [0,1,2,3,4,5,6,7,8,9,10]
attribute [go_sem] k37_VsDRef3 a37_19_VsDRef3 o37_19_VsDRef3 a37_28_VsDRef3 o37_28_VsDRef3
theorem f37_short (nb : Bool) (b : List UInt8) (hs : b.length < 37) : CallsP Tryd.prog 37 [.sl none nb 1 (b.map u8)] (.tup [AD.zero.av, .int .i64 60]) := by
  refine CallsP.introF Tryd.func37 rfl (by show 1 ≤ 173; decide) ?_
  rintro X hX
  have hn : X.n = 173 := hX
  unfold Tryd.f37
  dsimp only
  rw [entryB_0, entry1]
  repeat' first
   | with_reducible (first | refine Rl.go (by constructor <;> decide) ?_ | refine AWP.loopT 5 ?_ | refine AWP.unroll 5 ?_)
   | ((with_reducible first | refine hK _ ?_ | refine hK.1 ?_ | refine hK.2 ?_); clear hK K)
   | ((with_reducible refine condS hK (fun hg => ?_) fun hg => ?_) <;> clear hK K <;> (try simp only [hgW] at hg) <;> try (exfalso; omega))
   | ((first | ((with_reducible first | refine Rk.go k37_VsDRef3 (by constructor) ?_ | refine Rd.go 19 k37_VsDRef3 a37_19_VsDRef3 o37_19_VsDRef3 mixed (by constructor) (by kernel_rfl) (by kernel_rfl) ?_ | refine Rd.go 28 k37_VsDRef3 a37_28_VsDRef3 o37_28_VsDRef3 mixed (by constructor) (by kernel_rfl) (by kernel_rfl) ?_); intro K hK) | with_reducible refine Rr.go [] (by constructor) ?_ | (with_reducible refine guardP_split (fun hg => ?_) fun hg => ?_) <;> (try simp only [hg]) <;> (try simp only [hgW] at hg)) <;> simp -implicitDefEqProofs only [AD.av, AD.cells, AD.zero, z32_u8, z16_u8, cs_zero, Int.cast_ofNat_Int, hn, go_sem, simprocAttr] <;> try (simp (disch := omega) only [wrW]; try simp -implicitDefEqProofs only [AD.av, AD.cells, AD.zero, z32_u8, z16_u8, cs_zero, Int.cast_ofNat_Int, hn, go_sem, simprocAttr]))
   | with_reducible refine And.intro (by first | omega | (simp only [hgW]; omega)) ?_
   | (exfalso; omega)
theorem f37_bad (nb : Bool) (b : List UInt8) (hs : ¬ b.length < 37) (hb : badF (b.getD 32 default) = true) : CallsP Tryd.prog 37 [.sl none nb 1 (b.map u8)] (.tup [AD.zero.av, .int .i64 60]) := by
  obtain ⟨f, hf⟩ : ∃ f, b.getD 32 default = f := ⟨_, rfl⟩
  rw [hf] at hb
  have q2 := bit_i f 2
  have q8 := bit_i f 8
  have q16 := bit_i f 16
  have q32 := bit_i f 32
  simp only [Int.cast_ofNat_Int] at q2 q8 q16 q32
  have hfl := f.toNat_lt
  by_cases h2 : bit f 2 = true
  · refine CallsP.introF Tryd.func37 rfl (by show 1 ≤ 173; decide) ?_
    rintro X hX
    have hn : X.n = 173 := hX
    unfold Tryd.f37
    dsimp only
    rw [entryB_0, entry1]
    repeat' first
     | (with_reducible refine markQ 11 ?_)
     | with_reducible (first | refine Rl.go (by constructor <;> decide) ?_ | refine AWP.loopT 5 ?_ | refine AWP.unroll 5 ?_)
     | ((with_reducible first | refine hK _ ?_ | refine hK.1 ?_ | refine hK.2 ?_); clear hK K)
     | ((with_reducible refine condS hK (fun hg => ?_) fun hg => ?_) <;> clear hK K <;> (try simp only [hgW] at hg) <;> try (exfalso; omega))
     | ((first | ((with_reducible first | refine Rk.go k37_VsDRef3 (by constructor) ?_ | refine Rd.go 19 k37_VsDRef3 a37_19_VsDRef3 o37_19_VsDRef3 mixed (by constructor) (by kernel_rfl) (by kernel_rfl) ?_ | refine Rd.go 28 k37_VsDRef3 a37_28_VsDRef3 o37_28_VsDRef3 mixed (by constructor) (by kernel_rfl) (by kernel_rfl) ?_); intro K hK) | with_reducible refine Rr.go [] (by constructor) ?_ | (with_reducible refine guardP_split (fun hg => ?_) fun hg => ?_) <;> (try simp only [hg]) <;> (try simp only [hgW] at hg)) <;> simp -implicitDefEqProofs only [hf, q2, h2, u8, AD.av, AD.cells, AD.zero, z32_u8, z16_u8, cs_zero, Int.cast_ofNat_Int, hn, go_sem, simprocAttr] <;> try (simp (disch := omega) only [wrW]; try simp -implicitDefEqProofs only [hf, q2, h2, u8, AD.av, AD.cells, AD.zero, z32_u8, z16_u8, cs_zero, Int.cast_ofNat_Int, hn, go_sem, simprocAttr]))
     | with_reducible refine And.intro (by first | omega | (simp only [hgW]; omega)) ?_
     | (exfalso; omega)
  have h2 : bit f 2 = false := by simpa using h2
  by_cases h8 : bit f 8 = true
  · refine CallsP.introF Tryd.func37 rfl (by show 1 ≤ 173; decide) ?_
    rintro X hX
    have hn : X.n = 173 := hX
    unfold Tryd.f37
    dsimp only
    rw [entryB_0, entry1]
    repeat' first
     | (with_reducible refine markQ 11 ?_)
     | with_reducible (first | refine Rl.go (by constructor <;> decide) ?_ | refine AWP.loopT 5 ?_ | refine AWP.unroll 5 ?_)
     | ((with_reducible first | refine hK _ ?_ | refine hK.1 ?_ | refine hK.2 ?_); clear hK K)
     | ((with_reducible refine condS hK (fun hg => ?_) fun hg => ?_) <;> clear hK K <;> (try simp only [hgW] at hg) <;> try (exfalso; omega))
     | ((first | ((with_reducible first | refine Rk.go k37_VsDRef3 (by constructor) ?_ | refine Rd.go 19 k37_VsDRef3 a37_19_VsDRef3 o37_19_VsDRef3 mixed (by constructor) (by kernel_rfl) (by kernel_rfl) ?_ | refine Rd.go 28 k37_VsDRef3 a37_28_VsDRef3 o37_28_VsDRef3 mixed (by constructor) (by kernel_rfl) (by kernel_rfl) ?_); intro K hK) | with_reducible refine Rr.go [] (by constructor) ?_ | (with_reducible refine guardP_split (fun hg => ?_) fun hg => ?_) <;> (try simp only [hg]) <;> (try simp only [hgW] at hg)) <;> simp -implicitDefEqProofs only [hf, q2, h2, q8, h8, u8, AD.av, AD.cells, AD.zero, z32_u8, z16_u8, cs_zero, Int.cast_ofNat_Int, hn, go_sem, simprocAttr] <;> try (simp (disch := omega) only [wrW]; try simp -implicitDefEqProofs only [hf, q2, h2, q8, h8, u8, AD.av, AD.cells, AD.zero, z32_u8, z16_u8, cs_zero, Int.cast_ofNat_Int, hn, go_sem, simprocAttr]))
     | with_reducible refine And.intro (by first | omega | (simp only [hgW]; omega)) ?_
     | (exfalso; omega)
  have h8 : bit f 8 = false := by simpa using h8
  by_cases h16 : bit f 16 = true
  · refine CallsP.introF Tryd.func37 rfl (by show 1 ≤ 173; decide) ?_
    rintro X hX
    have hn : X.n = 173 := hX
    unfold Tryd.f37
    dsimp only
    rw [entryB_0, entry1]
    repeat' first
     | (with_reducible refine markQ 11 ?_)
     | with_reducible (first | refine Rl.go (by constructor <;> decide) ?_ | refine AWP.loopT 5 ?_ | refine AWP.unroll 5 ?_)
     | ((with_reducible first | refine hK _ ?_ | refine hK.1 ?_ | refine hK.2 ?_); clear hK K)
     | ((with_reducible refine condS hK (fun hg => ?_) fun hg => ?_) <;> clear hK K <;> (try simp only [hgW] at hg) <;> try (exfalso; omega))
     | ((first | ((with_reducible first | refine Rk.go k37_VsDRef3 (by constructor) ?_ | refine Rd.go 19 k37_VsDRef3 a37_19_VsDRef3 o37_19_VsDRef3 mixed (by constructor) (by kernel_rfl) (by kernel_rfl) ?_ | refine Rd.go 28 k37_VsDRef3 a37_28_VsDRef3 o37_28_VsDRef3 mixed (by constructor) (by kernel_rfl) (by kernel_rfl) ?_); intro K hK) | with_reducible refine Rr.go [] (by constructor) ?_ | (with_reducible refine guardP_split (fun hg => ?_) fun hg => ?_) <;> (try simp only [hg]) <;> (try simp only [hgW] at hg)) <;> simp -implicitDefEqProofs only [hf, q2, h2, q8, h8, q16, h16, u8, AD.av, AD.cells, AD.zero, z32_u8, z16_u8, cs_zero, Int.cast_ofNat_Int, hn, go_sem, simprocAttr] <;> try (simp (disch := omega) only [wrW]; try simp -implicitDefEqProofs only [hf, q2, h2, q8, h8, q16, h16, u8, AD.av, AD.cells, AD.zero, z32_u8, z16_u8, cs_zero, Int.cast_ofNat_Int, hn, go_sem, simprocAttr]))
     | with_reducible refine And.intro (by first | omega | (simp only [hgW]; omega)) ?_
     | (exfalso; omega)
  have h16 : bit f 16 = false := by simpa using h16
  have h32 : bit f 32 = true := by simpa [badF, h2, h8, h16] using hb
  refine CallsP.introF Tryd.func37 rfl (by show 1 ≤ 173; decide) ?_
  rintro X hX
  have hn : X.n = 173 := hX
  unfold Tryd.f37
  dsimp only
  rw [entryB_0, entry1]
  repeat' first
   | (with_reducible refine markQ 11 ?_)
   | with_reducible (first | refine Rl.go (by constructor <;> decide) ?_ | refine AWP.loopT 5 ?_ | refine AWP.unroll 5 ?_)
   | ((with_reducible first | refine hK _ ?_ | refine hK.1 ?_ | refine hK.2 ?_); clear hK K)
   | ((with_reducible refine condS hK (fun hg => ?_) fun hg => ?_) <;> clear hK K <;> (try simp only [hgW] at hg) <;> try (exfalso; omega))
   | ((first | ((with_reducible first | refine Rk.go k37_VsDRef3 (by constructor) ?_ | refine Rd.go 19 k37_VsDRef3 a37_19_VsDRef3 o37_19_VsDRef3 mixed (by constructor) (by kernel_rfl) (by kernel_rfl) ?_ | refine Rd.go 28 k37_VsDRef3 a37_28_VsDRef3 o37_28_VsDRef3 mixed (by constructor) (by kernel_rfl) (by kernel_rfl) ?_); intro K hK) | with_reducible refine Rr.go [] (by constructor) ?_ | (with_reducible refine guardP_split (fun hg => ?_) fun hg => ?_) <;> (try simp only [hg]) <;> (try simp only [hgW] at hg)) <;> simp -implicitDefEqProofs only [hf, q2, h2, q8, h8, q16, h16, q32, h32, u8, AD.av, AD.cells, AD.zero, z32_u8, z16_u8, cs_zero, Int.cast_ofNat_Int, hn, go_sem, simprocAttr] <;> try (simp (disch := omega) only [wrW]; try simp -implicitDefEqProofs only [hf, q2, h2, q8, h8, q16, h16, q32, h32, u8, AD.av, AD.cells, AD.zero, z32_u8, z16_u8, cs_zero, Int.cast_ofNat_Int, hn, go_sem, simprocAttr]))
   | with_reducible refine And.intro (by first | omega | (simp only [hgW]; omega)) ?_
   | (exfalso; omega)
theorem f37_go {valid : List UInt8 → Bool} (hv : ValidOk valid) (hs : List UInt8) (hlen : hs.length = 32) (f c0 c1 c2 c3 : UInt8) (r : List UInt8) (hb : badF f = false) (hl : r.length ≤ 100000) (R : AD × Nat)
    (hR : heldS valid f ⟨hs, bit f 1, bit f 4, bit f 64, be [c0, c1, c2, c3], z16, true, [], .zero, .zero⟩ r = R) :
    CallsP Tryd.prog 37 [.sl none false 1 ((hs ++ f :: c0 :: c1 :: c2 :: c3 :: r).map u8)] (.tup [R.1.av, .int .i64 (R.2 : Int)]) := by
  have hl2 : (hs.map u8).length = 32 := by rw [List.length_map]; exact hlen
  have ht1 := ap_take hlen (l := f :: c0 :: c1 :: c2 :: c3 :: r)
  have hd1 := ap_drop hlen (l := f :: c0 :: c1 :: c2 :: c3 :: r)
  have hg1 := ap_getD hlen (l := f :: c0 :: c1 :: c2 :: c3 :: r) (d := default)
  have ht2 := ap_take hl2
  have hd2 := ap_drop hl2
  have hg2 := ap_get hl2
  obtain ⟨h2, h8, h16, h32⟩ := badF_cases hb
  have q1 := bit_1 f
  have q2 := bit_i f 2
  have q8 := bit_i f 8
  have q16 := bit_i f 16
  have q32 := bit_i f 32
  have q4 := bit_i f 4
  have q64 := bit_i f 64
  simp only [Int.cast_ofNat_Int] at q2 q8 q16 q32 q4 q64
  have hfl := f.toNat_lt
  have T := fun (X : Ent) (hX : X.n = 173) => tail37h X hX hv f hs hlen (bit f 1) (bit f 4) (be [c0, c1, c2, c3]) r hl
  refine CallsP.introF Tryd.func37 rfl (by show 1 ≤ 173; decide) ?_
  rintro X hX
  have hn : X.n = 173 := hX
  unfold Tryd.f37
  dsimp only
  rw [entryB_0, entry1]
  repeat' first
   | (with_reducible refine markS 12 ?_)
   | with_reducible (first | refine Rl.go (by constructor <;> decide) ?_ | refine AWP.loopT 5 ?_ | refine AWP.unroll 5 ?_)
   | ((with_reducible first | refine hK _ ?_ | refine hK.1 ?_ | refine hK.2 ?_); clear hK K)
   | ((with_reducible refine condS hK (fun hg => ?_) fun hg => ?_) <;> clear hK K <;> (try simp only [hgW] at hg) <;> try (exfalso; omega))
   | ((first | ((with_reducible first | refine Rk.go k37_VsDRef3 (by constructor) ?_ | refine Rd.go 19 k37_VsDRef3 a37_19_VsDRef3 o37_19_VsDRef3 mixed (by constructor) (by kernel_rfl) (by kernel_rfl) ?_ | refine Rd.go 28 k37_VsDRef3 a37_28_VsDRef3 o37_28_VsDRef3 mixed (by constructor) (by kernel_rfl) (by kernel_rfl) ?_); intro K hK) | with_reducible refine Rr.go [] (by constructor) ?_ | (with_reducible refine guardP_split (fun hg => ?_) fun hg => ?_) <;> (try simp only [hg]) <;> (try simp only [hgW] at hg)) <;> simp -implicitDefEqProofs only [q1, q2, h2, q8, h8, q16, h16, q32, h32, q4, q64, hlen, hl2, ht1, hd1, hg1, ht2, hd2, hg2, List.append_assoc, u8, Int.cast_ofNat_Int, hn, go_sem, simprocAttr] <;> try (simp (disch := omega) only [wrW]; try simp -implicitDefEqProofs only [q1, q2, h2, q8, h8, q16, h16, q32, h32, q4, q64, hlen, hl2, ht1, hd1, hg1, ht2, hd2, hg2, List.append_assoc, u8, Int.cast_ofNat_Int, hn, go_sem, simprocAttr]))
   | with_reducible refine And.intro (by first | omega | (simp only [hgW]; omega)) ?_
   | (exfalso; omega)
  unfold MarkP
  repeat' first
   | with_reducible refine Rl.go (by constructor <;> decide) ?_
   | ((with_reducible first | refine hK _ ?_ | refine hK.1 ?_ | refine hK.2 ?_); clear hK K)
   | ((with_reducible refine condS hK (fun hg => ?_) fun hg => ?_) <;> clear hK K <;> (try simp only [hgW] at hg) <;> try (exfalso; omega))
   | ((first | ((with_reducible first | refine Rk.go k37_VsDRef3 (by constructor) ?_ | refine Rd.go 19 k37_VsDRef3 a37_19_VsDRef3 o37_19_VsDRef3 mixed (by constructor) (by kernel_rfl) (by kernel_rfl) ?_ | refine Rd.go 28 k37_VsDRef3 a37_28_VsDRef3 o37_28_VsDRef3 mixed (by constructor) (by kernel_rfl) (by kernel_rfl) ?_); intro K hK) | with_reducible refine Rr.go [] (by constructor) ?_ | (with_reducible refine guardP_split (fun hg => ?_) fun hg => ?_) <;> (try simp only [hg]) <;> (try simp only [hgW] at hg)) <;> simp -implicitDefEqProofs only [hlen, hl2, ht1, hd1, hg1, ht2, hd2, hg2, List.append_assoc, u8, Int.cast_ofNat_Int, hn, go_sem, simprocAttr] <;> try (simp (disch := omega) only [wrW]; try simp -implicitDefEqProofs only [hlen, hl2, ht1, hd1, hg1, ht2, hd2, hg2, List.append_assoc, u8, Int.cast_ofNat_Int, hn, go_sem, simprocAttr]))
   | with_reducible refine And.intro (by first | omega | (simp only [hgW]; omega)) ?_
   | (exfalso; omega)
  have hz0 : (zb hs 0).map u8 = [.int .u8 0, .int .u8 0, .int .u8 0, .int .u8 0, .int .u8 0, .int .u8 0, .int .u8 0, .int .u8 0, .int .u8 0, .int .u8 0, .int .u8 0, .int .u8 0, .int .u8 0, .int .u8 0, .int .u8 0, .int .u8 0, .int .u8 0, .int .u8 0, .int .u8 0, .int .u8 0, .int .u8 0, .int .u8 0, .int .u8 0, .int .u8 0, .int .u8 0, .int .u8 0, .int .u8 0, .int .u8 0, .int .u8 0, .int .u8 0, .int .u8 0, .int .u8 0] := by
    unfold zb
    rw [hlen]
    rfl
  refine AWP.loopX [0, 2, 3, 4, 5, 8, 9] [] (fun i : Nat => St.mk (lk [(0, .sl none false 1 ((hs ++ f :: c0 :: c1 :: c2 :: c3 :: r).map u8)), (2, .ptr 2 0), (3, .int .i64 0), (4, .int .i64 60), (5, .int .i64 (f.toNat : Int)), (8, .ptr 8 0), (9, .int .i64 (i : Int))])
      (lkB [(2, zAD), (8, (zb hs i).map u8 ++ [.bool (bit f 1), .bool (bit f 4), .bool (bit f 64), .int .u32 0, .int .u8 0, .int .u8 0, .int .u8 0, .int .u8 0, .int .u8 0, .int .u8 0, .int .u8 0, .int .u8 0, .int .u8 0, .int .u8 0, .int .u8 0, .int .u8 0, .int .u8 0, .int .u8 0, .int .u8 0, .int .u8 0, .sl none true 1 [], .int .u8 0, .int .u64 0, .sl none true 1 [], .sl none true 4 [], .int .u8 0, .int .u64 0, .sl none true 1 [], .sl none true 4 []])]) (hasS []) (hasS []) (hasN []) (lkR []))
    (fun i => i ≤ 32) (fun i => 32 - i) 0 ?_ (by decide) ?_
  · simp -implicitDefEqProofs only [zAD, hz0, Int.cast_ofNat_Int, hn, go_sem, simprocAttr]
    try rfl
  rintro i h1
  by_cases hi : i = 32
  · subst hi
    have hza : zb hs 32 = hs := by rw [← hlen]; exact zb_all hs
    rw [hza]
    have hr : 32 + (r.length + 1 + 1 + 1 + 1 + 1) - 37 = r.length := by omega
    have b0 := c0.toNat_lt
    have b1 := c1.toNat_lt
    have b2 := c2.toNat_lt
    have b3 := c3.toNat_lt
    repeat' first
     | (with_reducible refine markS 21 ?_)
     | with_reducible (first | refine Rl.go (by constructor <;> decide) ?_ | refine AWP.loopT 5 ?_ | refine AWP.unroll 5 ?_)
     | ((with_reducible first | refine hK _ ?_ | refine hK.1 ?_ | refine hK.2 ?_); clear hK K)
     | ((with_reducible refine condS hK (fun hg => ?_) fun hg => ?_) <;> clear hK K <;> (try simp only [hgW] at hg) <;> try (exfalso; omega))
     | ((first | ((with_reducible first | refine Rk.go k37_VsDRef3 (by constructor) ?_ | refine Rd.go 19 k37_VsDRef3 a37_19_VsDRef3 o37_19_VsDRef3 mixed (by constructor) (by kernel_rfl) (by kernel_rfl) ?_ | refine Rd.go 28 k37_VsDRef3 a37_28_VsDRef3 o37_28_VsDRef3 mixed (by constructor) (by kernel_rfl) (by kernel_rfl) ?_); intro K hK) | with_reducible refine Rr.go [] (by constructor) ?_ | (with_reducible refine guardP_split (fun hg => ?_) fun hg => ?_) <;> (try simp only [hg]) <;> (try simp only [hgW] at hg)) <;> simp -implicitDefEqProofs only [hr, hlen, hl2, ht1, hd1, hg1, ht2, hd2, hg2, List.append_assoc, u8, zAD, Int.cast_ofNat_Int, hn, go_sem, simprocAttr] <;> try (simp (disch := omega) only [wrW]; try simp -implicitDefEqProofs only [hr, hlen, hl2, ht1, hd1, hg1, ht2, hd2, hg2, List.append_assoc, u8, zAD, Int.cast_ofNat_Int, hn, go_sem, simprocAttr]))
     | with_reducible refine And.intro (by first | omega | (simp only [hgW]; omega)) ?_
     | (exfalso; omega)
    unfold MarkP
    refine AWP.slim [2, 3, 4, 5, 8, 11] [] ?_
    have hcnt : (((((c0.toNat : Int)) * 256 + (c1.toNat : Int)) * 256 + (c2.toNat : Int)) * 256 + (c3.toNat : Int)) = ((be [c0, c1, c2, c3] : Nat) : Int) := by simp [be]
    simp -implicitDefEqProofs only [hr, hcnt, Int.cast_ofNat_Int, hn, go_sem, simprocAttr]
    have T := T X hX
    simp only [zAD] at T
    rw [← hR]
    exact T
  have hgi : (hs ++ f :: c0 :: c1 :: c2 :: c3 :: r).getD i default = hs.getD i default := by
    rw [List.getD_eq_getElem?_getD, List.getElem?_append_left (by omega), ← List.getD_eq_getElem?_getD]
  have hzt := zb_take hs i (by omega)
  have hzd := zb_drop hs i (by omega)
  have hzn := zb_next hs i (by omega)
  rw [hlen] at hzd hzn
  have hti : (hs.take i).length = i := by rw [List.length_take]; omega
  have hzrl : (zr (32 - (i + 1))).length = 32 - (i + 1) := by simp [zr]
  have hzl : (zb hs i).length = 32 := by rw [zb_len hs i (by omega), hlen]
  have e2 : (i : Int) + 1 = ((i + 1 : Nat) : Int) := by omega
  repeat' first
   | with_reducible refine Rl.go (by constructor <;> decide) ?_
   | ((with_reducible first | refine hK _ ?_ | refine hK.1 ?_ | refine hK.2 ?_); clear hK K)
   | ((with_reducible refine condS hK (fun hg => ?_) fun hg => ?_) <;> clear hK K <;> (try simp only [hgW] at hg) <;> try (exfalso; omega))
   | ((first | ((with_reducible first | refine Rk.go k37_VsDRef3 (by constructor) ?_ | refine Rd.go 19 k37_VsDRef3 a37_19_VsDRef3 o37_19_VsDRef3 mixed (by constructor) (by kernel_rfl) (by kernel_rfl) ?_ | refine Rd.go 28 k37_VsDRef3 a37_28_VsDRef3 o37_28_VsDRef3 mixed (by constructor) (by kernel_rfl) (by kernel_rfl) ?_); intro K hK) | with_reducible refine Rr.go [] (by constructor) ?_ | (with_reducible refine guardP_split (fun hg => ?_) fun hg => ?_) <;> (try simp only [hg]) <;> (try simp only [hgW] at hg)) <;> simp -implicitDefEqProofs only [hgi, hzt, hzd, hzl, hti, hzrl, List.append_assoc, u8, hlen, Int.cast_ofNat_Int, hn, go_sem, simprocAttr] <;> try (simp (disch := omega) only [wrW]; try simp -implicitDefEqProofs only [hgi, hzt, hzd, hzl, hti, hzrl, List.append_assoc, u8, hlen, Int.cast_ofNat_Int, hn, go_sem, simprocAttr]))
   | with_reducible refine And.intro (by first | omega | (simp only [hgW]; omega)) ?_
   | (exfalso; omega)
  refine ⟨i + 1, ?_, by omega, by omega⟩
  rw [e2]
  simp -implicitDefEqProofs only [zAD, hzn, List.append_assoc, Int.cast_ofNat_Int, hn, go_sem, simprocAttr]
  try rfl
theorem f37_ok {valid : List UInt8 → Bool} (hv : ValidOk valid) (nb : Bool) (b : List UInt8) (hnb : nb = true → b = []) (hl : b.length ≤ 100000) :
    CallsP Tryd.prog 37 [.sl none nb 1 (b.map u8)] (.tup [(authS valid b).1.av, .int .i64 ((authS valid b).2 : Int)]) := by
  by_cases h : b.length < 37
  · have e : authS valid b = (.zero, 60) := by unfold authS; rw [if_pos (.inl h)]
    rw [e]
    exact f37_short nb b h
  by_cases hb : badF (b.getD 32 default) = true
  · have e : authS valid b = (.zero, 60) := by unfold authS; rw [if_pos (.inr hb)]
    rw [e]
    exact f37_bad nb b h hb
  obtain ⟨hs, f, c0, c1, c2, c3, r, hlen, rfl⟩ := cut32 b (by omega)
  have hnf : nb = false := by
    cases nb with
    | false => rfl
    | true => have := hnb rfl; simp at this
  subst hnf
  have hbf : badF f = false := by
    have := ap_getD hlen (f :: c0 :: c1 :: c2 :: c3 :: r) 0 default
    rw [Nat.zero_add] at this
    rw [this] at hb
    simpa using hb
  have hl2 : r.length ≤ 100000 := by simp at hl; omega
  rw [authS_cut valid hlen, if_neg (by simp [hbf])]
  exact f37_go hv hs hlen f c0 c1 c2 c3 r hbf hl2 _ rfl
end Go.Proofs.YtijcpdgfbboamaaDoor
