/- What Parse comes to, where a credential is within. -/
import Derived.Test.YtijcpdgfbboamaaDoorVsDParse2
import Derived.Test.YtijcpdgfbboamaaDoorVsDOk
open Go Go.VS
namespace Go.Proofs.YtijcpdgfbboamaaDoor
set_option linter.unusedVariables false
set_option linter.unusedSimpArgs false
set_option maxRecDepth 20000
set_option maxHeartbeats 4000000
def k24_VsDParse3 : List Nat := [0,2,3,4,5,7,8,9,10,11,21,43,44,45,46,60,63,92,110,115,124,130,134,135,136,137,148,153]
def a24_18_VsDParse3 : List Nat := [0,1,3,7,15,0,32,96,224,511,1023]
def o24_18_VsDParse3 : List Nat := [0,1,2,3,4,5,6,7,8,9,10]
attribute [go_sem] k24_VsDParse3 a24_18_VsDParse3 o24_18_VsDParse3
theorem f24_key {valid : List UInt8 → Bool} (hv : ValidOk valid) (hs : List UInt8) (hlen : hs.length = 32) (f c0 c1 c2 c3 : UInt8) (ms : List UInt8) (mlen : ms.length = 16) (n0 n1 : UInt8) (q : List UInt8) (hb : badF f = false) (hl : q.length ≤ 100000) (hf : bit f 64 = true)
    (N : Nat) (hN : N = n0.toNat * 256 + n1.toNat) (h1 : 1 ≤ N) (h2 : N ≤ 128) (h3 : N ≤ q.length) (he : (decS valid (q.drop N)).2.2 ≠ 0) :
    CallsP Tryd.prog 24 [.sl none false 1 ((hs ++ f :: c0 :: c1 :: c2 :: c3 :: (ms ++ n0 :: n1 :: q)).map u8)] (.tup [AD.zero.av, .int .i64 ((decS valid (q.drop N)).2.2 : Int)]) := by
  have hl2 : (hs.map u8).length = 32 := by rw [List.length_map]; exact hlen
  have ml2 : (ms.map u8).length = 16 := by rw [List.length_map]; exact mlen
  have ht1 := ap_take hlen (l := f :: c0 :: c1 :: c2 :: c3 :: (ms ++ n0 :: n1 :: q))
  have hd1 := ap_drop hlen (l := f :: c0 :: c1 :: c2 :: c3 :: (ms ++ n0 :: n1 :: q))
  have hg1 := ap_getD hlen (l := f :: c0 :: c1 :: c2 :: c3 :: (ms ++ n0 :: n1 :: q)) (d := default)
  have ht2 := ap_take hl2
  have hd2 := ap_drop hl2
  have hg2 := ap_get hl2
  have mt1 := ap_take mlen (l := n0 :: n1 :: q)
  have md1 := ap_drop mlen (l := n0 :: n1 :: q)
  have mg1 := ap_getD mlen (l := n0 :: n1 :: q) (d := default)
  have mt2 := ap_take ml2
  have md2 := ap_drop ml2
  have mg2 := ap_get ml2
  have hr : 32 + (16 + (q.length + 1 + 1) + 1 + 1 + 1 + 1 + 1) - 37 = 16 + (q.length + 1 + 1) := by omega
  have htk : List.take (16 + (q.length + 1 + 1)) (ms ++ n0 :: n1 :: q) = ms ++ n0 :: n1 :: q := List.take_of_length_le (by simp [mlen])
  have hr2 : 16 + (q.length + 1 + 1) - 18 = q.length := by omega
  have hNi : (n0.toNat : Int) * 256 + n1.toNat = (N : Int) := by omega
  have c26 := f26_ok hv false (q.drop N) (fun h => by cases h)
  obtain ⟨D, hD⟩ : ∃ D, decS valid (q.drop N) = D := ⟨_, rfl⟩
  rw [hD] at c26 he ⊢
  obtain ⟨x, o, e⟩ := D
  obtain ⟨xk, xn, xbn, xb, xkn, xks⟩ := x
  simp only at c26 he ⊢
  have hq2 : q.length - N = (q.drop N).length := by rw [List.length_drop]
  cases o with
  | none =>
    simp only [restAV, av_mk'] at c26
    refine CallsP.introF Tryd.func24 rfl (by show 1 ≤ 156; decide) ?_
    rintro X hX
    have hn : X.n = 156 := hX
    unfold Tryd.f24
    dsimp only
    rw [entryB_0, entry1]
    repeat' first
     | with_reducible (first | refine Rl.go (by constructor <;> decide) ?_ | refine AWP.loopT 5 ?_ | refine AWP.unroll 5 ?_)
     | ((with_reducible first | refine hK _ ?_ | refine hK.1 ?_ | refine hK.2 ?_); clear hK K)
     | ((with_reducible refine condS hK (fun hg => ?_) fun hg => ?_) <;> clear hK K <;> (try simp only [hgW] at hg) <;> try (exfalso; omega))
     | ((first | ((with_reducible first | refine Rk.go k24_VsDParse3 (by constructor) ?_ | refine Rd.go 18 k24_VsDParse3 a24_18_VsDParse3 o24_18_VsDParse3 mixed (by constructor) (by kernel_rfl) (by kernel_rfl) ?_); intro K hK) | with_reducible refine Rr.go [] (by constructor) ?_ | (with_reducible refine guardP_split (fun hg => ?_) fun hg => ?_) <;> (try simp only [hg]) <;> (try simp only [hgW] at hg) | refine Rc.go c26 (by constructor) ?_) <;> simp -implicitDefEqProofs only [hb, hr, htk, hr2, hNi, hq2, fBad, f1, f4, f64, hf, Bool.not_not, hlen, mlen, hl2, ml2, ht1, hd1, hg1, ht2, hd2, hg2, mt1, md1, mg1, mt2, md2, mg2, List.append_assoc, u8, AD.av, AD.cells, AD.zero, z32_u8, z16_u8, cs_zero, Int.cast_ofNat_Int, hn, go_sem, simprocAttr] <;> try (simp (disch := omega) only [wrW]; try simp -implicitDefEqProofs only [hb, hr, htk, hr2, hNi, hq2, fBad, f1, f4, f64, hf, Bool.not_not, hlen, mlen, hl2, ml2, ht1, hd1, hg1, ht2, hd2, hg2, mt1, md1, mg1, mt2, md2, mg2, List.append_assoc, u8, AD.av, AD.cells, AD.zero, z32_u8, z16_u8, cs_zero, Int.cast_ofNat_Int, hn, go_sem, simprocAttr]))
     | with_reducible refine And.intro (by first | omega | (simp only [hgW]; omega)) ?_
     | (exfalso; omega)
    all_goals trace_state
  | some l =>
    simp only [restAV, av_mk'] at c26
    refine CallsP.introF Tryd.func24 rfl (by show 1 ≤ 156; decide) ?_
    rintro X hX
    have hn : X.n = 156 := hX
    unfold Tryd.f24
    dsimp only
    rw [entryB_0, entry1]
    repeat' first
     | with_reducible (first | refine Rl.go (by constructor <;> decide) ?_ | refine AWP.loopT 5 ?_ | refine AWP.unroll 5 ?_)
     | ((with_reducible first | refine hK _ ?_ | refine hK.1 ?_ | refine hK.2 ?_); clear hK K)
     | ((with_reducible refine condS hK (fun hg => ?_) fun hg => ?_) <;> clear hK K <;> (try simp only [hgW] at hg) <;> try (exfalso; omega))
     | ((first | ((with_reducible first | refine Rk.go k24_VsDParse3 (by constructor) ?_ | refine Rd.go 18 k24_VsDParse3 a24_18_VsDParse3 o24_18_VsDParse3 mixed (by constructor) (by kernel_rfl) (by kernel_rfl) ?_); intro K hK) | with_reducible refine Rr.go [] (by constructor) ?_ | (with_reducible refine guardP_split (fun hg => ?_) fun hg => ?_) <;> (try simp only [hg]) <;> (try simp only [hgW] at hg) | refine Rc.go c26 (by constructor) ?_) <;> simp -implicitDefEqProofs only [hb, hr, htk, hr2, hNi, hq2, fBad, f1, f4, f64, hf, Bool.not_not, hlen, mlen, hl2, ml2, ht1, hd1, hg1, ht2, hd2, hg2, mt1, md1, mg1, mt2, md2, mg2, List.append_assoc, u8, AD.av, AD.cells, AD.zero, z32_u8, z16_u8, cs_zero, Int.cast_ofNat_Int, hn, go_sem, simprocAttr] <;> try (simp (disch := omega) only [wrW]; try simp -implicitDefEqProofs only [hb, hr, htk, hr2, hNi, hq2, fBad, f1, f4, f64, hf, Bool.not_not, hlen, mlen, hl2, ml2, ht1, hd1, hg1, ht2, hd2, hg2, mt1, md1, mg1, mt2, md2, mg2, List.append_assoc, u8, AD.av, AD.cells, AD.zero, z32_u8, z16_u8, cs_zero, Int.cast_ofNat_Int, hn, go_sem, simprocAttr]))
     | with_reducible refine And.intro (by first | omega | (simp only [hgW]; omega)) ?_
     | (exfalso; omega)
    all_goals trace_state
end Go.Proofs.YtijcpdgfbboamaaDoor
open Go Go.VS
namespace Go.Proofs.YtijcpdgfbboamaaDoor
set_option linter.unusedVariables false
set_option linter.unusedSimpArgs false
set_option maxRecDepth 20000
set_option maxHeartbeats 4000000
def k24_VsDParse4 : List Nat := [0,2,3,4,5,7,8,9,10,11,21,43,44,45,46,60,63,92,110,115,124,130,134,135,136,137,148,153]
def a24_18_VsDParse4 : List Nat := [0,1,3,7,15,0,32,96,224,511,1023]
def o24_18_VsDParse4 : List Nat := [0,1,2,3,4,5,6,7,8,9,10]
attribute [go_sem] k24_VsDParse4 a24_18_VsDParse4 o24_18_VsDParse4
theorem f24_held {valid : List UInt8 → Bool} (hv : ValidOk valid) (hs : List UInt8) (hlen : hs.length = 32) (f c0 c1 c2 c3 : UInt8) (ms : List UInt8) (mlen : ms.length = 16) (n0 n1 : UInt8) (q : List UInt8) (hb : badF f = false) (hl : q.length ≤ 100000) (hf : bit f 64 = true)
    (N : Nat) (hN : N = n0.toNat * 256 + n1.toNat) (h1 : 1 ≤ N) (h2 : N ≤ 128) (h3 : N ≤ q.length) (he : (decS valid (q.drop N)).2.2 = 0) (R : AD × Nat)
    (hR : extS valid f ⟨hs, bit f 1, bit f 4, true, be [c0, c1, c2, c3], ms, false, q.take N, (decS valid (q.drop N)).1, .zero⟩ ((decS valid (q.drop N)).2.1.getD []) = R) :
    CallsP Tryd.prog 24 [.sl none false 1 ((hs ++ f :: c0 :: c1 :: c2 :: c3 :: (ms ++ n0 :: n1 :: q)).map u8)] (.tup [R.1.av, .int .i64 (R.2 : Int)]) := by
  have hl2 : (hs.map u8).length = 32 := by rw [List.length_map]; exact hlen
  have ml2 : (ms.map u8).length = 16 := by rw [List.length_map]; exact mlen
  have ht1 := ap_take hlen (l := f :: c0 :: c1 :: c2 :: c3 :: (ms ++ n0 :: n1 :: q))
  have hd1 := ap_drop hlen (l := f :: c0 :: c1 :: c2 :: c3 :: (ms ++ n0 :: n1 :: q))
  have hg1 := ap_getD hlen (l := f :: c0 :: c1 :: c2 :: c3 :: (ms ++ n0 :: n1 :: q)) (d := default)
  have ht2 := ap_take hl2
  have hd2 := ap_drop hl2
  have hg2 := ap_get hl2
  have mt1 := ap_take mlen (l := n0 :: n1 :: q)
  have md1 := ap_drop mlen (l := n0 :: n1 :: q)
  have mg1 := ap_getD mlen (l := n0 :: n1 :: q) (d := default)
  have mt2 := ap_take ml2
  have md2 := ap_drop ml2
  have mg2 := ap_get ml2
  have hr : 32 + (16 + (q.length + 1 + 1) + 1 + 1 + 1 + 1 + 1) - 37 = 16 + (q.length + 1 + 1) := by omega
  have htk : List.take (16 + (q.length + 1 + 1)) (ms ++ n0 :: n1 :: q) = ms ++ n0 :: n1 :: q := List.take_of_length_le (by simp [mlen])
  have hr2 : 16 + (q.length + 1 + 1) - 18 = q.length := by omega
  have hNi : (n0.toNat : Int) * 256 + n1.toNat = (N : Int) := by omega
  have hso := dec_some valid (q.drop N) he
  have c26 := f26_ok hv false (q.drop N) (fun h => by cases h)
  obtain ⟨D, hD⟩ : ∃ D, decS valid (q.drop N) = D := ⟨_, rfl⟩
  rw [hD] at c26 he hR hso
  obtain ⟨x, o, e⟩ := D
  obtain ⟨xk, xn, xbn, xb, xkn, xks⟩ := x
  simp only at c26 he hR hso
  subst he
  obtain ⟨l, rfl, hll⟩ := hso
  rw [List.length_drop] at hll
  have hq2 : q.length - N = (q.drop N).length := by rw [List.length_drop]
  simp only [restAV, av_mk', Option.getD_some] at c26 hR
  have T := fun (X : Ent) (hX : X.n = 156) => tail24 X hX hv f hs ms hlen mlen (bit f 1) (bit f 4) true (be [c0, c1, c2, c3]) false (q.take N) xk xn xbn xkn xb xks false l (fun h => by cases h) (by omega)
  refine CallsP.introF Tryd.func24 rfl (by show 1 ≤ 156; decide) ?_
  rintro X hX
  have hn : X.n = 156 := hX
  unfold Tryd.f24
  dsimp only
  rw [entryB_0, entry1]
  repeat' first
   | (with_reducible refine markD 26 ?_)
   | with_reducible (first | refine Rl.go (by constructor <;> decide) ?_ | refine AWP.loopT 5 ?_ | refine AWP.unroll 5 ?_)
   | ((with_reducible first | refine hK _ ?_ | refine hK.1 ?_ | refine hK.2 ?_); clear hK K)
   | ((with_reducible refine condS hK (fun hg => ?_) fun hg => ?_) <;> clear hK K <;> (try simp only [hgW] at hg) <;> try (exfalso; omega))
   | ((first | ((with_reducible first | refine Rk.go k24_VsDParse4 (by constructor) ?_ | refine Rd.go 18 k24_VsDParse4 a24_18_VsDParse4 o24_18_VsDParse4 mixed (by constructor) (by kernel_rfl) (by kernel_rfl) ?_); intro K hK) | with_reducible refine Rr.go [] (by constructor) ?_ | (with_reducible refine guardP_split (fun hg => ?_) fun hg => ?_) <;> (try simp only [hg]) <;> (try simp only [hgW] at hg) | refine Rc.go c26 (by constructor) ?_) <;> simp -implicitDefEqProofs only [hb, hr, htk, hr2, hNi, hq2, fBad, f1, f4, f64, hf, Bool.not_not, hlen, mlen, hl2, ml2, ht1, hd1, hg1, ht2, hd2, hg2, mt1, md1, mg1, mt2, md2, mg2, List.append_assoc, u8, Int.cast_ofNat_Int, hn, go_sem, simprocAttr] <;> try (simp (disch := omega) only [wrW]; try simp -implicitDefEqProofs only [hb, hr, htk, hr2, hNi, hq2, fBad, f1, f4, f64, hf, Bool.not_not, hlen, mlen, hl2, ml2, ht1, hd1, hg1, ht2, hd2, hg2, mt1, md1, mg1, mt2, md2, mg2, List.append_assoc, u8, Int.cast_ofNat_Int, hn, go_sem, simprocAttr]))
   | with_reducible refine And.intro (by first | omega | (simp only [hgW]; omega)) ?_
   | (exfalso; omega)
  unfold MarkD
  refine AWP.slimF [0, 2, 3, 4, 5] [] [(0, 94)] (by rfl) ?_
  simp -implicitDefEqProofs only [cnt4, Int.cast_ofNat_Int, hn, go_sem, simprocAttr]
  have T := T X hX
  simp only [zAD] at T
  rw [← hR]
  exact T
theorem f24_ok {valid : List UInt8 → Bool} (hv : ValidOk valid) (nb : Bool) (b : List UInt8) (hnb : nb = true → b = []) (hl : b.length ≤ 100000) :
    CallsP Tryd.prog 24 [.sl none nb 1 (b.map u8)] (.tup [(authS valid b).1.av, .int .i64 ((authS valid b).2 : Int)]) := by
  by_cases h : b.length < 37
  · have e : authS valid b = (.zero, 60) := by unfold authS; rw [if_pos (.inl h)]
    rw [e]
    exact f24_short nb b h
  by_cases hb : badF (b.getD 32 default) = true
  · have e : authS valid b = (.zero, 60) := by unfold authS; rw [if_pos (.inr hb)]
    rw [e]
    exact f24_bad nb b h hb
  obtain ⟨hs, f, c0, c1, c2, c3, r, hlen, rfl⟩ := cut32 b (by omega)
  have hnf : nb = false := by
    cases nb with
    | false => rfl
    | true => have := hnb rfl; simp at this
  subst hnf
  have hbf : badF f = false := by
    have := ap_getD hlen (f :: c0 :: c1 :: c2 :: c3 :: r) 0 default
    rw [Nat.zero_add] at this
    rw [this] at hb
    simpa using hb
  have hl2 : r.length ≤ 100000 := by simp at hl; omega
  rw [authS_cut valid hlen, if_neg (by simp [hbf])]
  by_cases hf : bit f 64 = true
  · by_cases h18 : r.length < 18
    · have e : ∀ d, heldS valid f d r = (.zero, 60) := fun d => by unfold heldS; rw [if_pos hf, if_pos h18]
      rw [e]
      exact f24_h18 hs hlen f c0 c1 c2 c3 r hbf h18 hf
    obtain ⟨ms, n0, n1, q, mlen, rfl⟩ := cut16 r (by omega)
    have hl3 : q.length ≤ 100000 := by simp at hl2; omega
    rw [heldS_cut valid f _ mlen n0 n1 q hf _ rfl]
    by_cases hn : n0.toNat * 256 + n1.toNat < 1 ∨ 128 < n0.toNat * 256 + n1.toNat ∨ q.length < n0.toNat * 256 + n1.toNat
    · rw [if_pos hn]
      exact f24_hn hs hlen f c0 c1 c2 c3 ms mlen n0 n1 q hbf hl3 hf hn
    rw [if_neg hn]
    by_cases he : (decS valid (q.drop (n0.toNat * 256 + n1.toNat))).2.2 = 0
    · rw [if_neg (by simp [he]), hf]
      exact f24_held hv hs hlen f c0 c1 c2 c3 ms mlen n0 n1 q hbf hl3 hf _ rfl (by omega) (by omega) (by omega) he _ rfl
    · rw [if_pos he]
      exact f24_key hv hs hlen f c0 c1 c2 c3 ms mlen n0 n1 q hbf hl3 hf _ rfl (by omega) (by omega) (by omega) he
  · have hf0 : bit f 64 = false := by simpa using hf
    have e : ∀ d, heldS valid f d r = extS valid f d r := fun d => by unfold heldS; rw [if_neg hf]
    rw [e, hf0]
    exact f24_free hv hs hlen f c0 c1 c2 c3 r hbf hl2 hf0 _ rfl
end Go.Proofs.YtijcpdgfbboamaaDoor
