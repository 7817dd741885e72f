/- The law AuthdWrites' code answers true. -/
import Derived.Test.YtijcpdgfbboamaaDoorVsDRefW2
import Derived.Test.YtijcpdgfbboamaaDoorVsDMade
import Derived.Test.YtijcpdgfbboamaaDoorVsDAwake
open Go Go.VS
namespace Go.Proofs.YtijcpdgfbboamaaDoor
set_option linter.unusedVariables false
set_option linter.unusedSimpArgs false
set_option maxRecDepth 20000
set_option maxHeartbeats 4000000
def k14_VsDWrites : List Nat := [0,1,2,3,4,5,6,8,9,10,11,12,14]
attribute [go_sem] k14_VsDWrites
theorem f14_ok {valid : List UInt8 → Bool} (hv : ValidOk valid) (hi : ValidI valid) (d : AD) (hd : d.In) (key exts : CI) (hk : PlanD 5 key) (he : PlanD 4 exts) (size : UInt8) :
    CallsP Tryd.prog 14 [d.av, key.av, exts.av, .int .u8 (size.toNat : Int)] (.bool true) := by
  have c22 := f22_ok hv
  have c29 := f29_ok d hd key exts hk he size
  have hw := made15_wr hd key exts size hk he
  have c30 := f30_ok hi _ hw
  have c31 := f31_ok hi _ hw (extX_kids size exts)
  obtain ⟨h1, h2, h3, h4, h5⟩ := hd
  have g1 := hw.hs
  have g2 := hw.ms
  generalize made15 d key exts size = D at *
  generalize writeS valid D = W at *
  obtain ⟨w, we⟩ := W
  obtain ⟨hs, p, v, h, cnt, ms, cn, cred, dkey, dexts⟩ := d
  simp only at h1 h2 h3 h4 h5
  obtain ⟨dk, dn, dbn, db, dkn, dks⟩ := dkey
  obtain ⟨ek, en, ebn, eb, ekn, eks⟩ := dexts
  obtain ⟨pk, pn, pbn, pb, pkn, pks⟩ := key
  obtain ⟨qk, qn, qbn, qb, qkn, qks⟩ := exts
  obtain ⟨hs', p', v', h', cnt', ms', cn', cred', key', exts'⟩ := D
  simp only at g1 g2
  obtain ⟨kk, kn, kbn, kb', kkn, kks⟩ := key'
  obtain ⟨xk, xn, xbn, xb, xkn, xks⟩ := exts'
  have hl2 : (hs.map u8).length = 32 := by rw [List.length_map]; exact h1
  have ml2 : (ms.map u8).length = 16 := by rw [List.length_map]; exact h2
  have hl3 : (hs'.map u8).length = 32 := by rw [List.length_map]; exact g1
  have ml3 : (ms'.map u8).length = 16 := by rw [List.length_map]; exact g2
  have ht1 := ap_take hl2
  have hd1 := ap_drop hl2
  have ht2 := ap_take ml2
  have hd2 := ap_drop ml2
  have ht3 := ap_take hl3
  have hd3 := ap_drop hl3
  have ht4 := ap_take ml3
  have hd4 := ap_drop ml3
  simp only [AD.av, AD.cells, cs_mk, av_mk', outAV, List.cons_append, List.nil_append] at c29 c30 c31
  refine CallsP.intro Tryd.func14 rfl (by show 4 ≤ 40; decide) ?_
  rintro X hX
  have hn : X.n = 40 := hX
  unfold Tryd.f14
  dsimp only
  rw [entry4]
  repeat' first
   | with_reducible refine Rl.go (by constructor <;> decide) ?_
   | ((with_reducible first | refine hK _ ?_ | refine hK.1 ?_ | refine hK.2 ?_); clear hK K)
   | ((with_reducible refine condS hK (fun hg => ?_) fun hg => ?_) <;> clear hK K <;> (try simp only [hgW] at hg) <;> try (exfalso; omega))
   | ((with_reducible first | refine callE_PE c29 ?_ | refine callP_PE c29 ?_); simp -implicitDefEqProofs only [eqOk_true, AD.av, AD.cells, cs_mk, av_mk', List.append_assoc, List.cons_append, List.nil_append, h1, h2, hl2, ml2, g1, g2, hl3, ml3, ht1, hd1, ht2, hd2, ht3, hd3, ht4, hd4, Int.cast_ofNat_Int, hn, go_sem, simprocAttr]; (skip; try (simp (disch := omega) only [wrW]; try simp -implicitDefEqProofs only [AD.av, AD.cells, cs_mk, av_mk', List.append_assoc, List.cons_append, List.nil_append, h1, h2, hl2, ml2, g1, g2, hl3, ml3, ht1, hd1, ht2, hd2, ht3, hd3, ht4, hd4, Int.cast_ofNat_Int, hn, go_sem, simprocAttr])); fail_if_success (with_reducible refine eqOk_mk ?_))
   | ((with_reducible first | refine callE_PE c30 ?_ | refine callP_PE c30 ?_); simp -implicitDefEqProofs only [eqOk_true, AD.av, AD.cells, cs_mk, av_mk', List.append_assoc, List.cons_append, List.nil_append, h1, h2, hl2, ml2, g1, g2, hl3, ml3, ht1, hd1, ht2, hd2, ht3, hd3, ht4, hd4, Int.cast_ofNat_Int, hn, go_sem, simprocAttr]; (skip; try (simp (disch := omega) only [wrW]; try simp -implicitDefEqProofs only [AD.av, AD.cells, cs_mk, av_mk', List.append_assoc, List.cons_append, List.nil_append, h1, h2, hl2, ml2, g1, g2, hl3, ml3, ht1, hd1, ht2, hd2, ht3, hd3, ht4, hd4, Int.cast_ofNat_Int, hn, go_sem, simprocAttr])); fail_if_success (with_reducible refine eqOk_mk ?_))
   | ((with_reducible first | refine callE_PE c31 ?_ | refine callP_PE c31 ?_); simp -implicitDefEqProofs only [eqOk_true, AD.av, AD.cells, cs_mk, av_mk', List.append_assoc, List.cons_append, List.nil_append, h1, h2, hl2, ml2, g1, g2, hl3, ml3, ht1, hd1, ht2, hd2, ht3, hd3, ht4, hd4, Int.cast_ofNat_Int, hn, go_sem, simprocAttr]; (skip; try (simp (disch := omega) only [wrW]; try simp -implicitDefEqProofs only [AD.av, AD.cells, cs_mk, av_mk', List.append_assoc, List.cons_append, List.nil_append, h1, h2, hl2, ml2, g1, g2, hl3, ml3, ht1, hd1, ht2, hd2, ht3, hd3, ht4, hd4, Int.cast_ofNat_Int, hn, go_sem, simprocAttr])); fail_if_success (with_reducible refine eqOk_mk ?_))
   | ((first | ((with_reducible first | refine Rk.go k14_VsDWrites (by constructor) ?_); intro K hK) | with_reducible refine Rr.go [] (by constructor) ?_ | (with_reducible refine guardP_split (fun hg => ?_) fun hg => ?_) <;> (try simp only [hg]) <;> (try simp only [hgW] at hg) | refine Rc.go c22 (by constructor) ?_) <;> simp -implicitDefEqProofs only [AD.av, AD.cells, cs_mk, av_mk', List.append_assoc, List.cons_append, List.nil_append, h1, h2, hl2, ml2, g1, g2, hl3, ml3, ht1, hd1, ht2, hd2, ht3, hd3, ht4, hd4, Int.cast_ofNat_Int, hn, go_sem, simprocAttr] <;> try (simp (disch := omega) only [wrW]; try simp -implicitDefEqProofs only [AD.av, AD.cells, cs_mk, av_mk', List.append_assoc, List.cons_append, List.nil_append, h1, h2, hl2, ml2, g1, g2, hl3, ml3, ht1, hd1, ht2, hd2, ht3, hd3, ht4, hd4, Int.cast_ofNat_Int, hn, go_sem, simprocAttr]))
   | with_reducible refine And.intro (by first | omega | (simp only [hgW]; omega)) ?_
   | (exfalso; omega)
  all_goals trace_state
end Go.Proofs.YtijcpdgfbboamaaDoor
