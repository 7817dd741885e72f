/- What reading a map comes to. -/
import Derived.Test.YtijcpdgfbboamaaDoorVsCArr
import Derived.Test.YtijcpdgfbboamaaDoorVsSimp
open Go Go.VS
namespace Go.Proofs.YtijcpdgfbboamaaDoor
set_option linter.unusedVariables false
set_option linter.unusedSimpArgs false
set_option maxRecDepth 20000
set_option maxHeartbeats 4000000
structure PairI (it : RS → CI × RS) (n : Nat) (R : CI × RS) (x : Nat × RS × List CI) : Prop where
  le : x.1 ≤ n
  eq : pairS it (n - x.1) x.2.1 x.2.2 = R
  err : x.2.1.err = 0
  items : x.2.1.items ≤ 512
  len : x.2.1.b.length ≤ 100000
  kids : x.2.2.length ≤ x.2.1.items
  two : x.2.2.length = 2 * x.1
def k53_VsCPair : List Nat := [0,1,2,6,7,8,9,10,12,13,14,28,52,62]
def a53_8_VsCPair : List Nat := [0,1,3,7,15,31,63,127,255,511,1023,2047,1023,5119,13311,29695,65535,131071,1023,524287,1048575,2097151]
def o53_8_VsCPair : List Nat := [0,1,2,3,4,5,6,7,8,9,10,11,12,13,14,15,16,17,18,19,20,21]
attribute [go_sem] k53_VsCPair a53_8_VsCPair o53_8_VsCPair
theorem f53_ok {it : RS → CI × RS} {m : Nat} (hm : m ≤ 1000) (K : Keeps it m) (deep : Nat) (hit : ItOk it deep) (n : Nat) (hn64 : n < 18446744073709551616) (s : RS) (he : s.err = 0) (hi : s.items ≤ 512) (hl : s.b.length ≤ 100000) :
    CallsB Tryd.prog 53 [.ptr 1000000 0, .int .u64 (n : Int), .int .i64 (deep : Int)] [s.cells false] (pairS it n s []).1.av [(pairS it n s []).2.cells false] := by
  obtain ⟨R, hR⟩ : ∃ R, pairS it n s [] = R := ⟨_, rfl⟩
  rw [hR]
  refine CallsB.introF Tryd.func53 rfl (by show 3 ≤ 73; decide) ?_
  rintro X hX
  have hn : X.n = 73 := hX
  unfold Tryd.f53
  dsimp only
  rw [entryB31]
  repeat' first
   | with_reducible refine Rl.go (by constructor <;> decide) ?_
   | ((with_reducible first | refine hK _ ?_ | refine hK.1 ?_ | refine hK.2 ?_); clear hK K)
   | ((with_reducible refine condS hK (fun hg => ?_) fun hg => ?_) <;> clear hK K <;> (try simp only [hgW] at hg) <;> try (exfalso; omega))
   | ((first | ((with_reducible first | refine Rk.go k53_VsCPair (by constructor) ?_ | refine Rd.go 8 k53_VsCPair a53_8_VsCPair o53_8_VsCPair mixed (by constructor) (by kernel_rfl) (by kernel_rfl) ?_); intro K hK) | with_reducible refine Rr.go [] (by constructor) ?_ | (with_reducible refine guardP_split (fun hg => ?_) fun hg => ?_) <;> (try simp only [hg]) <;> (try simp only [hgW] at hg)) <;> simp -implicitDefEqProofs only [RS.cells, Int.cast_ofNat_Int, hn, go_sem, simprocAttr] <;> try (simp (disch := omega) only [wrW]; try simp -implicitDefEqProofs only [RS.cells, Int.cast_ofNat_Int, hn, go_sem, simprocAttr]))
   | with_reducible refine And.intro (by first | omega | (simp only [hgW]; omega)) ?_
   | (exfalso; omega)
  refine AWP.adoptB 7 3 (0, 999) 0 4 (by rfl) (by rfl) ?_
  refine AWP.loopX [0, 1, 2, 6, 7, 12, 13] [9, 10] (fun x : Nat × RS × List CI => St.mk (lk [(0, .ptr 1000000 0), (1, .int .u64 (n : Int)), (2, .int .i64 (deep : Int)), (6, .ptr 6 0), (7, .ptr 7 0), (12, .int .u64 (n : Int)), (13, .int .u64 (x.1 : Int))])
      (lkB [(1000000, x.2.1.cells false), (6, [.int .u8 0, .int .u64 0, .sl none true 1 [], .sl none true 4 []]), (7, [.int .u8 6, .int .u64 0, .sl none true 1 [], .sl (some ((0, 999), 0)) x.2.2.isEmpty 4 (x.2.2.map CI.av)])]) (hasS []) (hasS []) (hasN []) (lkR []))
    (PairI it n R) (fun x => n - x.1) (0, s, []) ?_ ⟨Nat.zero_le _, hR, he, hi, hl, Nat.zero_le _, rfl⟩ ?_
  · simp -implicitDefEqProofs only [RS.cells, Int.cast_ofNat_Int, hn, go_sem, simprocAttr]
    try rfl
  rintro ⟨k, ⟨b, items, err⟩, ks⟩ hx
  obtain ⟨x1, x2, x3, x4, x5, x6, x7⟩ := hx
  simp only at x1 x2 x3 x4 x5 x6 x7
  subst x3
  by_cases hkn : k = n
  · subst hkn
    rw [Nat.sub_self] at x2
    simp only [pairS] at x2
    subst x2
    repeat' first
     | with_reducible refine Rl.go (by constructor <;> decide) ?_
     | ((with_reducible first | refine hK _ ?_ | refine hK.1 ?_ | refine hK.2 ?_); clear hK K)
     | ((with_reducible refine condS hK (fun hg => ?_) fun hg => ?_) <;> clear hK K <;> (try simp only [hgW] at hg) <;> try (exfalso; omega))
     | ((first | ((with_reducible first | refine Rk.go k53_VsCPair (by constructor) ?_ | refine Rd.go 8 k53_VsCPair a53_8_VsCPair o53_8_VsCPair mixed (by constructor) (by kernel_rfl) (by kernel_rfl) ?_); intro K hK) | with_reducible refine Rr.go [] (by constructor) ?_ | (with_reducible refine guardP_split (fun hg => ?_) fun hg => ?_) <;> (try simp only [hg]) <;> (try simp only [hgW] at hg)) <;> simp -implicitDefEqProofs only [RS.cells, av_mk, Int.cast_ofNat_Int, hn, go_sem, simprocAttr] <;> try (simp (disch := omega) only [wrW]; try simp -implicitDefEqProofs only [RS.cells, av_mk, Int.cast_ofNat_Int, hn, go_sem, simprocAttr]))
     | with_reducible refine And.intro (by first | omega | (simp only [hgW]; omega)) ?_
     | (exfalso; omega)
  · have hx0 : n - k = (n - (k + 1)) + 1 := by omega
    rw [hx0] at x2
    simp only [pairS] at x2
    have c39 := hit ⟨b, items, 0⟩ x5 (by simp only; omega)
    have k1 := K.len ⟨b, items, 0⟩
    have k2 := K.more ⟨b, items, 0⟩
    have k3 := K.good ⟨b, items, 0⟩
    have k4 := K.most ⟨b, items, 0⟩ rfl x4
    obtain ⟨p, hp⟩ : ∃ p, it ⟨b, items, 0⟩ = p := ⟨_, rfl⟩
    rw [hp] at x2 c39 k1 k2 k3 k4
    obtain ⟨⟨ki, ni, bni, bi, kni, kids⟩, ⟨b', items', err'⟩⟩ := p
    simp only at x2 k1 k2 k3 k4
    have c57 := f57_ok (CI.mk ki ni bni bi kni kids)
    obtain ⟨y, hy⟩ : ∃ y, ks.getD (ks.length - 2) default = y := ⟨_, rfl⟩
    obtain ⟨yk, yn, ybn, yb, ykn, yks⟩ := y
    have c58 := f58_ok (CI.mk yk yn ybn yb ykn yks) (CI.mk ki ni bni bi kni kids)
    obtain ⟨o, ho⟩ : ∃ o, orderS (CI.mk yk yn ybn yb ykn yks) (CI.mk ki ni bni bi kni kids) = o := ⟨_, rfl⟩
    rw [ho] at c58
    have hidx : ((ks.length : Int) - 2).toNat = ks.length - 2 := by omega
    simp only [av_mk] at c57 c58
    -- what stands behind the key
    have key : ∀ s3 : RS, keyS (CI.mk ki ni bni bi kni kids) ⟨b', items', err'⟩ ks = s3 → s3.b = b' ∧ s3.items = items' := fun s3 h => by
      obtain ⟨q1, q2, _⟩ := keyS_b (CI.mk ki ni bni bi kni kids) ⟨b', items', err'⟩ ks
      rw [h] at q1 q2; exact ⟨q1, q2⟩
    have bad : ∀ e3 : Nat, e3 ≠ 0 → keyS (CI.mk ki ni bni bi kni kids) ⟨b', items', err'⟩ ks = ⟨b', items', e3⟩ →
        ∃ v b3, it ⟨b', items', e3⟩ = (v, ⟨b3, items' + 1, e3⟩) ∧ R = (.zero, ⟨b3, items' + 1, e3⟩) := fun e3 h3 h => by
      obtain ⟨g1, g2⟩ := K.bad ⟨b', items', e3⟩ h3
      rw [h] at x2
      obtain ⟨q, hq⟩ : ∃ q, it ⟨b', items', e3⟩ = q := ⟨_, rfl⟩
      rw [hq] at g1 g2 x2
      obtain ⟨v, ⟨b3, i3, e4⟩⟩ := q
      simp only at g1 g2 x2
      subst g1; subst g2
      rw [if_pos h3] at x2
      exact ⟨v, b3, hq, x2.symm⟩
    by_cases he' : err' = 0
    · subst he'
      by_cases hpl : plainS (CI.mk ki ni bni bi kni kids) = true
      · rw [hpl] at c57
        by_cases hod : ks ≠ [] ∧ 0 ≤ o
        · have hkey : keyS (CI.mk ki ni bni bi kni kids) ⟨b', items', 0⟩ ks = ⟨b', items', 21⟩ := by
            have e1 : ¬ ((RS.mk b' items' 0).err = 0 ∧ plainS (CI.mk ki ni bni bi kni kids) = false) := fun h => by rw [hpl] at h; cases h.2
            unfold keyS
            rw [if_neg e1, hy, ho]
            exact if_pos ⟨rfl, hod⟩
          obtain ⟨v, b3, hv, rfl⟩ := bad 21 (by decide) hkey
          have c39' := hit ⟨b', items', 21⟩ (by simp only; omega) (by simp only; omega)
          rw [hv] at c39'
          have c49 := f49_ok ⟨b', items', 0⟩ false 21
          have hks : 0 < ks.length := List.length_pos_iff.2 hod.1
          have hod2 := hod.2
          obtain ⟨vk, vn, vbn, vb, vkn, vks⟩ := v
          simp only at c39'
          repeat' first
           | with_reducible refine Rl.go (by constructor <;> decide) ?_
           | ((with_reducible first | refine hK _ ?_ | refine hK.1 ?_ | refine hK.2 ?_); clear hK K)
           | ((with_reducible refine condS hK (fun hg => ?_) fun hg => ?_) <;> clear hK K <;> (try simp only [hgW] at hg) <;> try (exfalso; omega))
           | ((with_reducible refine callE_B3 c39 ?_); simp -implicitDefEqProofs only [eqOk_true, RS.cells, RS.fail, av_mk, zero_av, hy, hidx, Int.cast_ofNat_Int, hn, go_sem, simprocAttr]; (skip; try (simp (disch := omega) only [wrW]; try simp -implicitDefEqProofs only [RS.cells, RS.fail, av_mk, zero_av, hy, hidx, Int.cast_ofNat_Int, hn, go_sem, simprocAttr])); fail_if_success (with_reducible refine eqOk_mk ?_))
           | ((with_reducible refine callE_B3 c49 ?_); simp -implicitDefEqProofs only [eqOk_true, RS.cells, RS.fail, av_mk, zero_av, hy, hidx, Int.cast_ofNat_Int, hn, go_sem, simprocAttr]; (skip; try (simp (disch := omega) only [wrW]; try simp -implicitDefEqProofs only [RS.cells, RS.fail, av_mk, zero_av, hy, hidx, Int.cast_ofNat_Int, hn, go_sem, simprocAttr])); fail_if_success (with_reducible refine eqOk_mk ?_))
           | ((with_reducible refine callE_B3 (c39') ?_); simp -implicitDefEqProofs only [eqOk_true, RS.cells, RS.fail, av_mk, zero_av, hy, hidx, Int.cast_ofNat_Int, hn, go_sem, simprocAttr]; (skip; try (simp (disch := omega) only [wrW]; try simp -implicitDefEqProofs only [RS.cells, RS.fail, av_mk, zero_av, hy, hidx, Int.cast_ofNat_Int, hn, go_sem, simprocAttr])); fail_if_success (with_reducible refine eqOk_mk ?_))
           | ((first | ((with_reducible first | refine Rk.go k53_VsCPair (by constructor) ?_ | refine Rd.go 8 k53_VsCPair a53_8_VsCPair o53_8_VsCPair mixed (by constructor) (by kernel_rfl) (by kernel_rfl) ?_); intro K hK) | with_reducible refine Rr.go [] (by constructor) ?_ | (with_reducible refine guardP_split (fun hg => ?_) fun hg => ?_) <;> (try simp only [hg]) <;> (try simp only [hgW] at hg) | refine Rc.go c57 (by constructor) ?_ | refine Rc.go c58 (by constructor) ?_) <;> simp -implicitDefEqProofs only [RS.cells, RS.fail, av_mk, zero_av, hy, hidx, Int.cast_ofNat_Int, hn, go_sem, simprocAttr] <;> try (simp (disch := omega) only [wrW]; try simp -implicitDefEqProofs only [RS.cells, RS.fail, av_mk, zero_av, hy, hidx, Int.cast_ofNat_Int, hn, go_sem, simprocAttr]))
           | with_reducible refine And.intro (by first | omega | (simp only [hgW]; omega)) ?_
           | (exfalso; omega)
        · have hkey : keyS (CI.mk ki ni bni bi kni kids) ⟨b', items', 0⟩ ks = ⟨b', items', 0⟩ := by
            have e1 : ¬ ((RS.mk b' items' 0).err = 0 ∧ plainS (CI.mk ki ni bni bi kni kids) = false) := fun h => by rw [hpl] at h; cases h.2
            unfold keyS
            rw [if_neg e1, hy, ho]
            exact if_neg (fun h => hod h.2)
          rw [hkey] at x2
          have c39' := hit ⟨b', items', 0⟩ (by simp only; omega) (by simp only; omega)
          have g1 := K.len ⟨b', items', 0⟩
          have g2 := K.more ⟨b', items', 0⟩
          have g3 := K.good ⟨b', items', 0⟩
          obtain ⟨q, hq⟩ : ∃ q, it ⟨b', items', 0⟩ = q := ⟨_, rfl⟩
          rw [hq] at g1 g2 g3 x2 c39'
          obtain ⟨⟨vk, vn, vbn, vb, vkn, vks⟩, ⟨b3, i3, e4⟩⟩ := q
          simp only at g1 g2 g3 x2 c39'
          have hod3 : 0 < k → o < 0 := fun h => by
            have : ks ≠ [] := fun e => by rw [e] at x7; simp only [List.length_nil] at x7; omega
            have h9 : ¬ 0 ≤ o := fun h2 => hod ⟨this, h2⟩
            omega
          by_cases he4 : e4 = 0
          · subst he4
            simp only [ne_eq, not_true_eq_false, if_false] at x2
            repeat' first
             | with_reducible refine Rl.go (by constructor <;> decide) ?_
             | ((with_reducible first | refine hK _ ?_ | refine hK.1 ?_ | refine hK.2 ?_); clear hK K)
             | ((with_reducible refine condS hK (fun hg => ?_) fun hg => ?_) <;> clear hK K <;> (try simp only [hgW] at hg) <;> try (exfalso; omega))
             | ((with_reducible refine callE_B3 c39 ?_); simp -implicitDefEqProofs only [eqOk_true, RS.cells, RS.fail, av_mk, zero_av, hy, hidx, Int.cast_ofNat_Int, hn, go_sem, simprocAttr]; (skip; try (simp (disch := omega) only [wrW]; try simp -implicitDefEqProofs only [RS.cells, RS.fail, av_mk, zero_av, hy, hidx, Int.cast_ofNat_Int, hn, go_sem, simprocAttr])); fail_if_success (with_reducible refine eqOk_mk ?_))
             | ((with_reducible refine callE_B3 (c39') ?_); simp -implicitDefEqProofs only [eqOk_true, RS.cells, RS.fail, av_mk, zero_av, hy, hidx, Int.cast_ofNat_Int, hn, go_sem, simprocAttr]; (skip; try (simp (disch := omega) only [wrW]; try simp -implicitDefEqProofs only [RS.cells, RS.fail, av_mk, zero_av, hy, hidx, Int.cast_ofNat_Int, hn, go_sem, simprocAttr])); fail_if_success (with_reducible refine eqOk_mk ?_))
             | ((first | ((with_reducible first | refine Rk.go k53_VsCPair (by constructor) ?_ | refine Rd.go 8 k53_VsCPair a53_8_VsCPair o53_8_VsCPair mixed (by constructor) (by kernel_rfl) (by kernel_rfl) ?_); intro K hK) | with_reducible refine Rr.go [] (by constructor) ?_ | (with_reducible refine guardP_split (fun hg => ?_) fun hg => ?_) <;> (try simp only [hg]) <;> (try simp only [hgW] at hg) | refine Rc.go c57 (by constructor) ?_ | refine Rc.go c58 (by constructor) ?_) <;> simp -implicitDefEqProofs only [RS.cells, RS.fail, av_mk, zero_av, hy, hidx, Int.cast_ofNat_Int, hn, go_sem, simprocAttr] <;> try (simp (disch := omega) only [wrW]; try simp -implicitDefEqProofs only [RS.cells, RS.fail, av_mk, zero_av, hy, hidx, Int.cast_ofNat_Int, hn, go_sem, simprocAttr]))
             | with_reducible refine And.intro (by first | omega | (simp only [hgW]; omega)) ?_
             | (exfalso; omega)
            all_goals
              refine ⟨(k + 1, ⟨b3, i3, 0⟩, ks ++ [CI.mk ki ni bni bi kni kids, CI.mk vk vn vbn vb vkn vks]), ?_, ⟨by simp only; omega, x2, rfl, (g3 rfl).2, by simp only; omega, by simp only [List.length_append, List.length_cons, List.length_nil]; omega, by simp only [List.length_append, List.length_cons, List.length_nil]; omega⟩, by simp only; omega⟩
              have e1 : ks.map CI.av ++ [AV.agg [.int .u8 (ki : Int), .int .u64 (ni : Int), .sl none bni 1 (bi.map u8), .sl none kni 4 (kids.map CI.av)], AV.agg [.int .u8 (vk : Int), .int .u64 (vn : Int), .sl none vbn 1 (vb.map u8), .sl none vkn 4 (vks.map CI.av)]] = (ks ++ [CI.mk ki ni bni bi kni kids, CI.mk vk vn vbn vb vkn vks]).map CI.av := by
                rw [List.map_append, List.map_cons, List.map_cons, List.map_nil, av_mk, av_mk]
              have e2 : (k : Int) + 1 = ((k + 1 : Nat) : Int) := by omega
              have e3 : (ks ++ [CI.mk ki ni bni bi kni kids, CI.mk vk vn vbn vb vkn vks]).isEmpty = false := by simp
              rw [e1, e2]
              simp -implicitDefEqProofs only [RS.cells, e3, Int.cast_ofNat_Int, hn, go_sem, simprocAttr]
              try rfl
          · rw [if_pos he4] at x2
            subst x2
            repeat' first
             | with_reducible refine Rl.go (by constructor <;> decide) ?_
             | ((with_reducible first | refine hK _ ?_ | refine hK.1 ?_ | refine hK.2 ?_); clear hK K)
             | ((with_reducible refine condS hK (fun hg => ?_) fun hg => ?_) <;> clear hK K <;> (try simp only [hgW] at hg) <;> try (exfalso; omega))
             | ((with_reducible refine callE_B3 c39 ?_); simp -implicitDefEqProofs only [eqOk_true, RS.cells, RS.fail, av_mk, zero_av, hy, hidx, Int.cast_ofNat_Int, hn, go_sem, simprocAttr]; (skip; try (simp (disch := omega) only [wrW]; try simp -implicitDefEqProofs only [RS.cells, RS.fail, av_mk, zero_av, hy, hidx, Int.cast_ofNat_Int, hn, go_sem, simprocAttr])); fail_if_success (with_reducible refine eqOk_mk ?_))
             | ((with_reducible refine callE_B3 (c39') ?_); simp -implicitDefEqProofs only [eqOk_true, RS.cells, RS.fail, av_mk, zero_av, hy, hidx, Int.cast_ofNat_Int, hn, go_sem, simprocAttr]; (skip; try (simp (disch := omega) only [wrW]; try simp -implicitDefEqProofs only [RS.cells, RS.fail, av_mk, zero_av, hy, hidx, Int.cast_ofNat_Int, hn, go_sem, simprocAttr])); fail_if_success (with_reducible refine eqOk_mk ?_))
             | ((first | ((with_reducible first | refine Rk.go k53_VsCPair (by constructor) ?_ | refine Rd.go 8 k53_VsCPair a53_8_VsCPair o53_8_VsCPair mixed (by constructor) (by kernel_rfl) (by kernel_rfl) ?_); intro K hK) | with_reducible refine Rr.go [] (by constructor) ?_ | (with_reducible refine guardP_split (fun hg => ?_) fun hg => ?_) <;> (try simp only [hg]) <;> (try simp only [hgW] at hg) | refine Rc.go c57 (by constructor) ?_ | refine Rc.go c58 (by constructor) ?_) <;> simp -implicitDefEqProofs only [RS.cells, RS.fail, av_mk, zero_av, hy, hidx, Int.cast_ofNat_Int, hn, go_sem, simprocAttr] <;> try (simp (disch := omega) only [wrW]; try simp -implicitDefEqProofs only [RS.cells, RS.fail, av_mk, zero_av, hy, hidx, Int.cast_ofNat_Int, hn, go_sem, simprocAttr]))
             | with_reducible refine And.intro (by first | omega | (simp only [hgW]; omega)) ?_
             | (exfalso; omega)
      · have hpl : plainS (CI.mk ki ni bni bi kni kids) = false := by simpa using hpl
        rw [hpl] at c57
        have hkey : keyS (CI.mk ki ni bni bi kni kids) ⟨b', items', 0⟩ ks = ⟨b', items', 20⟩ := by
          have e1 : (RS.mk b' items' 0).err = 0 ∧ plainS (CI.mk ki ni bni bi kni kids) = false := ⟨rfl, hpl⟩
          have e2 : (RS.mk b' items' 0).fail 20 = ⟨b', items', 20⟩ := rfl
          unfold keyS
          rw [if_pos e1, e2]
          exact if_neg (fun h => by cases h.1)
        obtain ⟨v, b3, hv, rfl⟩ := bad 20 (by decide) hkey
        have c39' := hit ⟨b', items', 20⟩ (by simp only; omega) (by simp only; omega)
        rw [hv] at c39'
        have c49 := f49_ok ⟨b', items', 0⟩ false 20
        obtain ⟨vk, vn, vbn, vb, vkn, vks⟩ := v
        simp only at c39'
        repeat' first
         | with_reducible refine Rl.go (by constructor <;> decide) ?_
         | ((with_reducible first | refine hK _ ?_ | refine hK.1 ?_ | refine hK.2 ?_); clear hK K)
         | ((with_reducible refine condS hK (fun hg => ?_) fun hg => ?_) <;> clear hK K <;> (try simp only [hgW] at hg) <;> try (exfalso; omega))
         | ((with_reducible refine callE_B3 c39 ?_); simp -implicitDefEqProofs only [eqOk_true, RS.cells, RS.fail, av_mk, zero_av, hy, hidx, Int.cast_ofNat_Int, hn, go_sem, simprocAttr]; (skip; try (simp (disch := omega) only [wrW]; try simp -implicitDefEqProofs only [RS.cells, RS.fail, av_mk, zero_av, hy, hidx, Int.cast_ofNat_Int, hn, go_sem, simprocAttr])); fail_if_success (with_reducible refine eqOk_mk ?_))
         | ((with_reducible refine callE_B3 c49 ?_); simp -implicitDefEqProofs only [eqOk_true, RS.cells, RS.fail, av_mk, zero_av, hy, hidx, Int.cast_ofNat_Int, hn, go_sem, simprocAttr]; (skip; try (simp (disch := omega) only [wrW]; try simp -implicitDefEqProofs only [RS.cells, RS.fail, av_mk, zero_av, hy, hidx, Int.cast_ofNat_Int, hn, go_sem, simprocAttr])); fail_if_success (with_reducible refine eqOk_mk ?_))
         | ((with_reducible refine callE_B3 (c39') ?_); simp -implicitDefEqProofs only [eqOk_true, RS.cells, RS.fail, av_mk, zero_av, hy, hidx, Int.cast_ofNat_Int, hn, go_sem, simprocAttr]; (skip; try (simp (disch := omega) only [wrW]; try simp -implicitDefEqProofs only [RS.cells, RS.fail, av_mk, zero_av, hy, hidx, Int.cast_ofNat_Int, hn, go_sem, simprocAttr])); fail_if_success (with_reducible refine eqOk_mk ?_))
         | ((first | ((with_reducible first | refine Rk.go k53_VsCPair (by constructor) ?_ | refine Rd.go 8 k53_VsCPair a53_8_VsCPair o53_8_VsCPair mixed (by constructor) (by kernel_rfl) (by kernel_rfl) ?_); intro K hK) | with_reducible refine Rr.go [] (by constructor) ?_ | (with_reducible refine guardP_split (fun hg => ?_) fun hg => ?_) <;> (try simp only [hg]) <;> (try simp only [hgW] at hg) | refine Rc.go c57 (by constructor) ?_ | refine Rc.go c58 (by constructor) ?_) <;> simp -implicitDefEqProofs only [RS.cells, RS.fail, av_mk, zero_av, hy, hidx, Int.cast_ofNat_Int, hn, go_sem, simprocAttr] <;> try (simp (disch := omega) only [wrW]; try simp -implicitDefEqProofs only [RS.cells, RS.fail, av_mk, zero_av, hy, hidx, Int.cast_ofNat_Int, hn, go_sem, simprocAttr]))
         | with_reducible refine And.intro (by first | omega | (simp only [hgW]; omega)) ?_
         | (exfalso; omega)
    · have hkey := (keyS_b (CI.mk ki ni bni bi kni kids) ⟨b', items', err'⟩ ks).2.2.1 he'
      obtain ⟨v, b3, hv, rfl⟩ := bad err' he' hkey
      have c39' := hit ⟨b', items', err'⟩ (by simp only; omega) (by simp only; omega)
      rw [hv] at c39'
      obtain ⟨vk, vn, vbn, vb, vkn, vks⟩ := v
      simp only at c39'
      repeat' first
       | with_reducible refine Rl.go (by constructor <;> decide) ?_
       | ((with_reducible first | refine hK _ ?_ | refine hK.1 ?_ | refine hK.2 ?_); clear hK K)
       | ((with_reducible refine condS hK (fun hg => ?_) fun hg => ?_) <;> clear hK K <;> (try simp only [hgW] at hg) <;> try (exfalso; omega))
       | ((with_reducible refine callE_B3 c39 ?_); simp -implicitDefEqProofs only [eqOk_true, RS.cells, RS.fail, av_mk, zero_av, hy, hidx, Int.cast_ofNat_Int, hn, go_sem, simprocAttr]; (skip; try (simp (disch := omega) only [wrW]; try simp -implicitDefEqProofs only [RS.cells, RS.fail, av_mk, zero_av, hy, hidx, Int.cast_ofNat_Int, hn, go_sem, simprocAttr])); fail_if_success (with_reducible refine eqOk_mk ?_))
       | ((with_reducible refine callE_B3 (c39') ?_); simp -implicitDefEqProofs only [eqOk_true, RS.cells, RS.fail, av_mk, zero_av, hy, hidx, Int.cast_ofNat_Int, hn, go_sem, simprocAttr]; (skip; try (simp (disch := omega) only [wrW]; try simp -implicitDefEqProofs only [RS.cells, RS.fail, av_mk, zero_av, hy, hidx, Int.cast_ofNat_Int, hn, go_sem, simprocAttr])); fail_if_success (with_reducible refine eqOk_mk ?_))
       | ((first | ((with_reducible first | refine Rk.go k53_VsCPair (by constructor) ?_ | refine Rd.go 8 k53_VsCPair a53_8_VsCPair o53_8_VsCPair mixed (by constructor) (by kernel_rfl) (by kernel_rfl) ?_); intro K hK) | with_reducible refine Rr.go [] (by constructor) ?_ | (with_reducible refine guardP_split (fun hg => ?_) fun hg => ?_) <;> (try simp only [hg]) <;> (try simp only [hgW] at hg) | refine Rc.go c57 (by constructor) ?_ | refine Rc.go c58 (by constructor) ?_) <;> simp -implicitDefEqProofs only [RS.cells, RS.fail, av_mk, zero_av, hy, hidx, Int.cast_ofNat_Int, hn, go_sem, simprocAttr] <;> try (simp (disch := omega) only [wrW]; try simp -implicitDefEqProofs only [RS.cells, RS.fail, av_mk, zero_av, hy, hidx, Int.cast_ofNat_Int, hn, go_sem, simprocAttr]))
       | with_reducible refine And.intro (by first | omega | (simp only [hgW]; omega)) ?_
       | (exfalso; omega)
end Go.Proofs.YtijcpdgfbboamaaDoor
