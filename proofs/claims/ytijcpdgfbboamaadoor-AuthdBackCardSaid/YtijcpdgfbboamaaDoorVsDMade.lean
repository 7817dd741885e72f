/- What is to be said, made of small numbers. -/
import Derived.Test.YtijcpdgfbboamaaDoorVsDWrite2
import Derived.Test.YtijcpdgfbboamaaDoorVsCMade2
import Derived.Test.YtijcpdgfbboamaaDoorVsCMadeF
open Go Go.VS
namespace Go.Proofs.YtijcpdgfbboamaaDoor
set_option linter.unusedVariables false
set_option linter.unusedSimpArgs false
set_option maxRecDepth 20000
set_option maxHeartbeats 4000000
def textX : CI := .mk 4 0 false [120] true []
def extX (size : UInt8) (x : CI) : CI := if size.toNat % 2 = 0 ∧ x.k ≠ 6 then .mk 6 0 true [] false [textX, x] else x
def made15 (d : AD) (key exts : CI) (size : UInt8) : AD :=
  { d with cred := d.cred.take (min d.cred.length 140), key := madeS 4 key, exts := extX size (madeS 3 exts) }
/-- What an argument is like. -/
structure AD.In (d : AD) : Prop where
  hs : d.hs.length = 32
  ms : d.ms.length = 16
  cnt : d.cnt < 4294967296
  cn : d.cn = true → d.cred = []
  cl : d.cred.length ≤ 9223372036854775807
theorem fit_textX (d : Nat) : Fit d textX := by
  have h : Lim textX := ⟨by decide, by decide, by decide, by decide, fun h => by cases h⟩
  cases d with
  | zero => exact h
  | succ d => exact ⟨h, fun y hy => by cases hy⟩
theorem extX_fit (size : UInt8) (p : CI) (hp : PlanD 4 p) : Fit 8 (extX size (madeS 3 p)) := by
  unfold extX
  split
  · refine ⟨⟨by show 6 < 256; decide, by show 0 < 18446744073709551616; decide, by show 0 ≤ 100000; decide, by show 2 ≤ 100000; decide, fun _ => rfl⟩, fun y hy => ?_⟩
    simp only [CI.ks, List.mem_cons, List.not_mem_nil, or_false] at hy
    rcases hy with rfl | rfl
    · exact fit_textX 7
    · exact made_fit 7 3 p hp
  · exact made_fit 8 3 p hp
theorem made15_wr {d : AD} (h : d.In) (key exts : CI) (size : UInt8) (hk : PlanD 5 key) (he : PlanD 4 exts) : (made15 d key exts size).Wr :=
  ⟨h.hs, h.ms, h.cnt, fun hc => by
    have := h.cn hc
    show d.cred.take _ = []
    rw [this]
    simp, by show (d.cred.take (min d.cred.length 140)).length ≤ _; rw [List.length_take]; omega, made_fit 8 4 key hk, extX_fit size exts he⟩
def k41_VsDMade : List Nat := [0,2]
attribute [go_sem] k41_VsDMade
theorem f41_ok : CallsP Tryd.prog 41 [.str [120]] textX.av := by
  unfold textX
  rw [av_mk']
  refine CallsP.introF Tryd.func41 rfl (by show 1 ≤ 6; decide) ?_
  rintro X hX
  have hn : X.n = 6 := hX
  unfold Tryd.f41
  dsimp only
  rw [entryB_0, entry1]
  repeat' first
   | with_reducible refine Rl.go (by constructor <;> decide) ?_
   | ((with_reducible first | refine hK _ ?_ | refine hK.1 ?_ | refine hK.2 ?_); clear hK K)
   | ((with_reducible refine condS hK (fun hg => ?_) fun hg => ?_) <;> clear hK K <;> (try simp only [hgW] at hg) <;> try (exfalso; omega))
   | ((first | ((with_reducible first | refine Rk.go k41_VsDMade (by constructor) ?_); intro K hK) | with_reducible refine Rr.go [] (by constructor) ?_ | (with_reducible refine guardP_split (fun hg => ?_) fun hg => ?_) <;> (try simp only [hg]) <;> (try simp only [hgW] at hg)) <;> simp -implicitDefEqProofs only [Int.cast_ofNat_Int, hn, go_sem, simprocAttr] <;> try (simp (disch := omega) only [wrW]; try simp -implicitDefEqProofs only [Int.cast_ofNat_Int, hn, go_sem, simprocAttr]))
   | with_reducible refine And.intro (by first | omega | (simp only [hgW]; omega)) ?_
   | (exfalso; omega)
  all_goals trace_state
def k29_VsDMade : List Nat := [0,1,2,3,4,5,6,8,31]
def a29_5_VsDMade : List Nat := [0,0,2,7,15,31,63]
def o29_5_VsDMade : List Nat := [0,1,2,3,4,5,6]
attribute [go_sem] k29_VsDMade a29_5_VsDMade o29_5_VsDMade
theorem f29_ok (d : AD) (hd : d.In) (key exts : CI) (hk : PlanD 5 key) (he : PlanD 4 exts) (size : UInt8) :
    CallsP Tryd.prog 29 [d.av, key.av, exts.av, .int .u8 (size.toNat : Int)] (made15 d key exts size).av := by
  have c20 := made_ok 4 (by decide) key hk
  have c20' := made_ok 3 (by decide) exts he
  have c41 := f41_ok
  obtain ⟨h1, h2, h3, h4, h5⟩ := hd
  unfold made15
  generalize madeS 4 key = K at *
  generalize madeS 3 exts = E at *
  obtain ⟨hs, p, v, h, cnt, ms, cn, cred, dkey, dexts⟩ := d
  simp only at h1 h2 h3 h4 h5
  obtain ⟨dk, dn, dbn, db, dkn, dks⟩ := dkey
  obtain ⟨ek, en, ebn, eb, ekn, eks⟩ := dexts
  obtain ⟨pk, pn, pbn, pb, pkn, pks⟩ := key
  obtain ⟨qk, qn, qbn, qb, qkn, qks⟩ := exts
  obtain ⟨kk, kn, kbn, kb', kkn, kks⟩ := K
  obtain ⟨xk, xn, xbn, xb, xkn, xks⟩ := E
  have hl2 : (hs.map u8).length = 32 := by rw [List.length_map]; exact h1
  have ml2 : (ms.map u8).length = 16 := by rw [List.length_map]; exact h2
  have ht1 := ap_take hl2
  have hd1 := ap_drop hl2
  have hg1 := ap_get hl2
  have ht2 := ap_take ml2
  have hd2 := ap_drop ml2
  have hg2 := ap_get ml2
  have hsz := size.toNat_lt
  have htx : textX.av = .agg [.int .u8 4, .int .u64 0, .sl none false 1 [.int .u8 120], .sl none true 4 []] := rfl
  rw [htx] at c41
  simp only [av_mk'] at c20 c20'
  have hmi : (if (140 : Int) < (cred.length : Int) then (140 : Int) else (cred.length : Int)).toNat = min cred.length 140 := by split <;> omega
  by_cases hx : size.toNat % 2 = 0 ∧ xk ≠ 6
  · have e : extX size (.mk xk xn xbn xb xkn xks) = .mk 6 0 true [] false [textX, .mk xk xn xbn xb xkn xks] := if_pos hx
    rw [e]
    have hx1 : (size.toNat : Int) % 2 = 0 := by omega
    have hx2 : ¬ (xk : Int) = 6 := by omega
    refine CallsP.introF Tryd.func29 rfl (by show 4 ≤ 39; decide) ?_
    rintro X hX
    have hn : X.n = 39 := hX
    unfold Tryd.f29
    dsimp only
    rw [entryB_0, entry4]
    repeat' first
     | with_reducible refine Rl.go (by constructor <;> decide) ?_
     | ((with_reducible first | refine hK _ ?_ | refine hK.1 ?_ | refine hK.2 ?_); clear hK K)
     | ((with_reducible refine condS hK (fun hg => ?_) fun hg => ?_) <;> clear hK K <;> (try simp only [hgW] at hg) <;> try (exfalso; omega))
     | ((first | ((with_reducible first | refine Rk.go k29_VsDMade (by constructor) ?_ | refine Rd.go 5 k29_VsDMade a29_5_VsDMade o29_5_VsDMade mixed (by constructor) (by kernel_rfl) (by kernel_rfl) ?_); intro K hK) | with_reducible refine Rr.go [] (by constructor) ?_ | (with_reducible refine guardP_split (fun hg => ?_) fun hg => ?_) <;> (try simp only [hg]) <;> (try simp only [hgW] at hg) | refine Rc.go c20 (by constructor) ?_ | refine Rc.go (c20') (by constructor) ?_ | refine Rc.go c41 (by constructor) ?_) <;> simp -implicitDefEqProofs only [AD.av, AD.cells, cs_mk, av_mk', hmi, hx1, hx2, List.append_assoc, h1, h2, hl2, ml2, ht1, hd1, hg1, ht2, hd2, hg2, htx, Int.cast_ofNat_Int, hn, go_sem, simprocAttr] <;> try (simp (disch := omega) only [wrW]; try simp -implicitDefEqProofs only [AD.av, AD.cells, cs_mk, av_mk', hmi, hx1, hx2, List.append_assoc, h1, h2, hl2, ml2, ht1, hd1, hg1, ht2, hd2, hg2, htx, Int.cast_ofNat_Int, hn, go_sem, simprocAttr]))
     | with_reducible refine And.intro (by first | omega | (simp only [hgW]; omega)) ?_
     | (exfalso; omega)
    all_goals trace_state
  · have e : extX size (.mk xk xn xbn xb xkn xks) = .mk xk xn xbn xb xkn xks := if_neg hx
    rw [e]
    by_cases hx1 : size.toNat % 2 = 0
    · have hx1' : (size.toNat : Int) % 2 = 0 := by omega
      have hx2 : (xk : Int) = 6 := by omega
      refine CallsP.introF Tryd.func29 rfl (by show 4 ≤ 39; decide) ?_
      rintro X hX
      have hn : X.n = 39 := hX
      unfold Tryd.f29
      dsimp only
      rw [entryB_0, entry4]
      repeat' first
       | with_reducible refine Rl.go (by constructor <;> decide) ?_
       | ((with_reducible first | refine hK _ ?_ | refine hK.1 ?_ | refine hK.2 ?_); clear hK K)
       | ((with_reducible refine condS hK (fun hg => ?_) fun hg => ?_) <;> clear hK K <;> (try simp only [hgW] at hg) <;> try (exfalso; omega))
       | ((first | ((with_reducible first | refine Rk.go k29_VsDMade (by constructor) ?_ | refine Rd.go 5 k29_VsDMade a29_5_VsDMade o29_5_VsDMade mixed (by constructor) (by kernel_rfl) (by kernel_rfl) ?_); intro K hK) | with_reducible refine Rr.go [] (by constructor) ?_ | (with_reducible refine guardP_split (fun hg => ?_) fun hg => ?_) <;> (try simp only [hg]) <;> (try simp only [hgW] at hg) | refine Rc.go c20 (by constructor) ?_ | refine Rc.go (c20') (by constructor) ?_) <;> simp -implicitDefEqProofs only [AD.av, AD.cells, cs_mk, av_mk', hmi, hx1', hx2, List.append_assoc, h1, h2, hl2, ml2, ht1, hd1, hg1, ht2, hd2, hg2, Int.cast_ofNat_Int, hn, go_sem, simprocAttr] <;> try (simp (disch := omega) only [wrW]; try simp -implicitDefEqProofs only [AD.av, AD.cells, cs_mk, av_mk', hmi, hx1', hx2, List.append_assoc, h1, h2, hl2, ml2, ht1, hd1, hg1, ht2, hd2, hg2, Int.cast_ofNat_Int, hn, go_sem, simprocAttr]))
       | with_reducible refine And.intro (by first | omega | (simp only [hgW]; omega)) ?_
       | (exfalso; omega)
      all_goals trace_state
    · have hx1' : (size.toNat : Int) % 2 = 1 := by omega
      refine CallsP.introF Tryd.func29 rfl (by show 4 ≤ 39; decide) ?_
      rintro X hX
      have hn : X.n = 39 := hX
      unfold Tryd.f29
      dsimp only
      rw [entryB_0, entry4]
      repeat' first
       | with_reducible refine Rl.go (by constructor <;> decide) ?_
       | ((with_reducible first | refine hK _ ?_ | refine hK.1 ?_ | refine hK.2 ?_); clear hK K)
       | ((with_reducible refine condS hK (fun hg => ?_) fun hg => ?_) <;> clear hK K <;> (try simp only [hgW] at hg) <;> try (exfalso; omega))
       | ((first | ((with_reducible first | refine Rk.go k29_VsDMade (by constructor) ?_ | refine Rd.go 5 k29_VsDMade a29_5_VsDMade o29_5_VsDMade mixed (by constructor) (by kernel_rfl) (by kernel_rfl) ?_); intro K hK) | with_reducible refine Rr.go [] (by constructor) ?_ | (with_reducible refine guardP_split (fun hg => ?_) fun hg => ?_) <;> (try simp only [hg]) <;> (try simp only [hgW] at hg) | refine Rc.go c20 (by constructor) ?_ | refine Rc.go (c20') (by constructor) ?_) <;> simp -implicitDefEqProofs only [AD.av, AD.cells, cs_mk, av_mk', hmi, hx1', List.append_assoc, h1, h2, hl2, ml2, ht1, hd1, hg1, ht2, hd2, hg2, Int.cast_ofNat_Int, hn, go_sem, simprocAttr] <;> try (simp (disch := omega) only [wrW]; try simp -implicitDefEqProofs only [AD.av, AD.cells, cs_mk, av_mk', hmi, hx1', List.append_assoc, h1, h2, hl2, ml2, ht1, hd1, hg1, ht2, hd2, hg2, Int.cast_ofNat_Int, hn, go_sem, simprocAttr]))
       | with_reducible refine And.intro (by first | omega | (simp only [hgW]; omega)) ?_
       | (exfalso; omega)
      all_goals trace_state
theorem made_kids (d : Nat) (p : CI) : (madeS d p).ks.length ≤ 10000 := by
  cases d with
  | zero => show (leafS p).ks.length ≤ 10000; rw [(leaf_k p).2]; decide
  | succ d =>
    simp only [madeS]
    have ht : (p.ks.take 8).length ≤ 8 := by rw [List.length_take]; omega
    split
    · show ((p.ks.take 8).map (madeS d)).length ≤ 10000; rw [List.length_map]; omega
    split
    · have hl := fold_len (madeS d) (p.ks.take 8) [] rfl
      show (foldS (madeS d) (p.ks.take 8) []).length ≤ 10000
      simp only [List.length_nil] at hl
      omega
    · show (leafS p).ks.length ≤ 10000; rw [(leaf_k p).2]; decide
theorem extX_kids (size : UInt8) (p : CI) : (extX size (madeS 3 p)).ks.length ≤ 10000 := by
  unfold extX
  split
  · show 2 ≤ 10000; decide
  · exact made_kids 3 p
end Go.Proofs.YtijcpdgfbboamaaDoor
