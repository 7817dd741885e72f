/- The law ClientMore. -/
import Derived.Test.YtfemncfhiihckaaDoorVsSMore2
import Derived.Test.YtfemncfhiihckaaDoorVsTAwk
open Go Go.VS
namespace Go.Proofs.YtfemncfhiihckaaDoor
set_option linter.unusedVariables false
set_option linter.unusedSimpArgs false
set_option maxRecDepth 20000
set_option maxHeartbeats 4000000
theorem entry4c (a b c d : AV) : entry [a, b, c, d] = ⟨lk [(0, a), (1, b), (2, c), (3, d)], lkB [], hasS [], hasS [], hasN [], lkR []⟩ := by
  unfold entry
  congr 1
  funext t
  exact (slots4 a b c d t).symm
theorem flat_last (L : List Mem) (h : L ≠ []) : (flatM L).dropLast ++ [44] = flatM L := by
  induction L with
  | nil => exact absurd rfl h
  | cons m ms ih =>
    obtain ⟨p, _, hp⟩ := mtext_pre m []
    by_cases hm : ms = []
    · subst hm
      show (mtext m [44] ++ []).dropLast ++ [44] = mtext m [44] ++ []
      rw [List.append_nil, hp, List.dropLast_concat]
    · have hne : flatM ms ≠ [] := by
        cases ms with
        | nil => exact absurd rfl hm
        | cons x xs =>
          obtain ⟨q, _, hq⟩ := mtext_pre x []
          show mtext x [44] ++ _ ≠ []
          rw [hq]; simp
      show (mtext m [44] ++ flatM ms).dropLast ++ [44] = mtext m [44] ++ flatM ms
      rw [List.dropLast_append_of_ne_nil hne, List.append_assoc, ih hm]
theorem moreL_app : ∀ (a b : List UInt8) (i : Nat), moreL i (a ++ b) = moreL i a ++ moreL (i + a.length) b
  | [], b, i => rfl
  | n :: a, b, i => by
    rw [List.cons_append, moreL, moreL_app a b (i + 1), moreL, List.cons_append, List.length_cons, show i + 1 + a.length = i + (a.length + 1) by omega]
def k13_VsTMore : List Nat := [0,1,2,3,4,8,9,10,11,12,13,14,15,16,17,19,27,32,33,34,35,70]
def p13_11_VsTMore : List Nat := []
def a13_11_VsTMore : List Nat := [0,0,2,6,0,16,48,126,254,510,1022,0,0,4096,14336,30720,65534,131070,262143,524287]
def o13_11_VsTMore : List (List Nat) := [[1,2,3,4,5,6,7,11,0,8,9,10,12,13,14,15,16,17,18,19],[11,1,2,3,4,5,6,7,0,8,9,10,12,13,14,15,16,17,18,19]]
def a13_15_VsTMore : List Nat := [0,0,2,6,15,31,63,0,0,256,768,1920,4095,8191,16383]
def o13_15_VsTMore : List Nat := [0,1,2,3,4,5,6,7,8,9,10,11,12,13,14]
attribute [go_sem] k13_VsTMore p13_11_VsTMore a13_11_VsTMore o13_11_VsTMore a13_15_VsTMore o13_15_VsTMore
theorem f13_ok (k o c t d : UInt8) (na nn : Bool) (dr ns : List UInt8) (ah : Bool) (h1 : dr.length ≤ 9223372036854775807) (h2 : ns.length ≤ 9223372036854775807) :
    CallsP Tryd.prog 13 [.agg [.int .u8 (k.toNat : Int), .int .u8 (o.toNat : Int), .int .u8 (c.toNat : Int), .int .u8 (t.toNat : Int), .int .u8 (d.toNat : Int)], .sl none na 1 (dr.map u8), .sl none nn 1 (ns.map u8), .bool ah] (.bool true) := by
  by_cases hs : 300 < dr.length ∨ 30 < ns.length
  · refine CallsP.intro Tryd.func13 rfl (by show 4 ≤ 104; decide) ?_
    rintro X hX
    have hn : X.n = 104 := hX
    unfold Tryd.f13
    dsimp only
    rw [entry4c]
    repeat' first
     | with_reducible refine Rl.go (by constructor <;> decide) ?_
     | ((with_reducible first | refine hK _ ?_ | refine hK.1 ?_ | refine hK.2 ?_); clear hK K)
     | ((with_reducible refine condS hK (fun hg => ?_) fun hg => ?_) <;> clear hK K <;> (try simp only [hgW] at hg) <;> try (exfalso; omega))
     | ((first | ((with_reducible first | refine Rk.go k13_VsTMore (by constructor) ?_ | refine Rm.go 11 k13_VsTMore p13_11_VsTMore a13_11_VsTMore o13_11_VsTMore mixed (by constructor) (by kernel_rfl) (by kernel_rfl) (by with_unfolding_all rfl) ?_ | refine Rd.go 15 k13_VsTMore a13_15_VsTMore o13_15_VsTMore mixed (by constructor) (by kernel_rfl) (by kernel_rfl) ?_); intro K hK) | with_reducible refine Rr.go [] (by constructor) ?_ | (with_reducible refine guardP_split (fun hg => ?_) fun hg => ?_) <;> (try simp only [hg]) <;> (try simp only [hgW] at hg) | refine Rc.go f24_ok (by constructor) ?_) <;> simp -implicitDefEqProofs only [hn, go_sem, simprocAttr] <;> try (simp (disch := omega) only [wrW]; try simp -implicitDefEqProofs only [hn, go_sem, simprocAttr]))
     | with_reducible refine And.intro (by first | omega | (simp only [hgW]; omega)) ?_
     | (exfalso; omega)
  have hd300 : dr.length ≤ 300 := by omega
  have hn30 : ns.length ≤ 30 := by omega
  have c26 := f26_ok k o c t 0 na dr (by omega)
  obtain ⟨x, hx⟩ : ∃ x, c.toNat % 4 = x := ⟨_, rfl⟩
  obtain ⟨y, hy⟩ : ∃ y, t.toNat % 5 = y := ⟨_, rfl⟩
  obtain ⟨a, ha⟩ : ∃ a, k.toNat % 3 = a := ⟨_, rfl⟩
  obtain ⟨b, hb⟩ : ∃ b, o.toNat % 3 = b := ⟨_, rfl⟩
  rw [hx, hy, ha, hb] at c26
  have hx4 : x < 4 := by omega
  have hy5 : y < 5 := by omega
  have hsay := say_plain a b x y (enc64 dr) hx4 hy5
  have hpar := say_parse a b x y 0 false dr hx4 hy5 (by omega)
  have hcli : cliS (objN (membs (gapC 0) (kindC a) (origC b) (enc64 dr) x y false) 0) 0 = wantS (kindC a) (origC b) dr x y := say_cli _ _ _ _ dr x y false hx4 hy5 (dec_enc64 dr (by omega))
  obtain ⟨hk1, _, _, hk2, _, _⟩ := lits_clean a
  obtain ⟨_, ho1, _, _, ho2, _⟩ := lits_clean b
  have hel : (enc64 dr).length = (8 * dr.length + 5) / 6 := e64_len _ _
  have c26 : CallsP Tryd.prog 26 [.agg [.int .u8 (k.toNat : Int), .int .u8 (o.toNat : Int), .int .u8 (c.toNat : Int), .int .u8 (t.toNat : Int), .int .u8 0], .sl none na 1 (dr.map u8)] (.sl (some ((3, 0), 0)) false 1 ((sayT a b x y 0 false (enc64 dr)).map u8)) := c26
  have hbne : baseM [] (kindC a) (origC b) (enc64 dr) x y ≠ [] := by simp [baseM]
  have hcl : (crosC x).length ≤ 60 := by unfold crosC; split <;> decide
  have htl : (tokC y).length ≤ 60 := by unfold tokC; split <;> decide
  have hflen : (flatM (baseM [] (kindC a) (origC b) (enc64 dr) x y)).length ≤ 3000 := by
    have h := congrArg List.length hsay
    rw [List.length_cons, msL_len _ hbne] at h
    have h3 : (sayT a b x y 0 false (enc64 dr)).length ≤ 2900 := by
      unfold sayT
      simp only [cond_false, List.length_append, List.length_cons, List.length_nil, gapC]
      omega
    omega
  have mf := more_front (kindC a) (origC b) (enc64 dr) dr x y ns hx4 hy5 hk1 ho1 (enc_clean dr) (dec_enc64 dr (by omega)) hn30 hflen
  have mb := more_back (kindC a) (origC b) (enc64 dr) dr x y ns hx4 hy5 hk1 ho1 (enc_clean dr) (dec_enc64 dr (by omega)) hn30 hflen
  have c27a := f27_ok (sayT a b x y 0 false (enc64 dr)) false
  rw [hpar, hcli] at c27a
  obtain ⟨W, hW⟩ : ∃ W, wantS (kindC a) (origC b) dr x y = W := ⟨_, rfl⟩
  obtain ⟨bs, hbs⟩ : ∃ l, baseM [] (kindC a) (origC b) (enc64 dr) x y = l := ⟨_, rfl⟩
  rw [hW] at c27a mf mb
  rw [hbs] at mf mb hsay hbne hflen
  clear hpar hcli
  have hfl := flat_last bs hbne
  have hms := msL_flat bs hbne
  have hml := msL_len bs hbne
  obtain ⟨S, hS⟩ : ∃ S, sayT a b x y 0 false (enc64 dr) = S := ⟨_, rfl⟩
  rw [hS] at c26 c27a hsay
  have hSl : S.length = (flatM bs).length + 1 := by rw [hsay, List.length_cons, hml]
  have hS1 : S.drop 1 = msL bs := by rw [hsay]; rfl
  have hS2 : S.take (S.length - 1) = 123 :: (flatM bs).dropLast := by
    rw [hSl, hsay, hms, ← List.cons_append, Nat.add_sub_cancel]
    refine List.take_left' ?_
    have : flatM bs ≠ [] := fun e => by rw [e] at hfl; simp at hfl
    have := List.length_pos_iff.2 this
    simp only [List.length_cons, List.length_dropLast]; omega
  have hS3 : (msL bs).take (S.length - 1) = msL bs := List.take_of_length_le (by omega)
  have eS : (S.length : Int) - 1 = ((S.length - 1 : Nat) : Int) := by omega
  obtain ⟨w1, w2⟩ := W
  simp only at c27a mf mb
  have c28 := fun n1 n2 => f28_same w1 n1 n2
  have c28' := c28 w1.ch.isEmpty w1.ch.isEmpty
  refine CallsP.intro Tryd.func13 rfl (by show 4 ≤ 104; decide) ?_
  rintro X hX
  have hn : X.n = 104 := hX
  unfold Tryd.f13
  dsimp only
  rw [entry4c]
  repeat' first
   | with_reducible refine Rl.go (by constructor <;> decide) ?_
   | ((with_reducible first | refine hK _ ?_ | refine hK.1 ?_ | refine hK.2 ?_); clear hK K)
   | ((with_reducible refine condS hK (fun hg => ?_) fun hg => ?_) <;> clear hK K <;> (try simp only [hgW] at hg) <;> try (exfalso; omega))
   | ((first | ((with_reducible first | refine Rk.go k13_VsTMore (by constructor) ?_ | refine Rm.go 11 k13_VsTMore p13_11_VsTMore a13_11_VsTMore o13_11_VsTMore mixed (by constructor) (by kernel_rfl) (by kernel_rfl) (by with_unfolding_all rfl) ?_ | refine Rd.go 15 k13_VsTMore a13_15_VsTMore o13_15_VsTMore mixed (by constructor) (by kernel_rfl) (by kernel_rfl) ?_); intro K hK) | with_reducible refine Rr.go [] (by constructor) ?_ | (with_reducible refine guardP_split (fun hg => ?_) fun hg => ?_) <;> (try simp only [hg]) <;> (try simp only [hgW] at hg) | refine Rc.go f24_ok (by constructor) ?_ | refine Rc.go c26 (by constructor) ?_) <;> simp -implicitDefEqProofs only [hn, go_sem, simprocAttr] <;> try (simp (disch := omega) only [wrW]; try simp -implicitDefEqProofs only [hn, go_sem, simprocAttr]))
   | with_reducible refine And.intro (by first | omega | (simp only [hgW]; omega)) ?_
   | (exfalso; omega)
  refine AWP.loopX [3, 8, 9, 10, 32, 33, 34] [4] (fun i : Nat => St.mk (lk [(3, .bool ah), (8, .bool false), (9, .sl (some ((0, 1000031), 0)) false 1 (S.map u8)), (10, .str (flatM (moreL 0 (ns.take i)))), (32, .sl none nn 1 (ns.map u8)), (33, .int .i64 (ns.length : Int)), (34, .int .i64 (i : Int))]) (lkB []) (hasS []) (hasS []) (hasN []) (lkR []))
    (fun i => i ≤ ns.length) (fun i => ns.length - i) 0 ?_ (Nat.zero_le _) ?_
  · simp -implicitDefEqProofs only [flatM, moreL, List.take_zero, List.flatMap_nil, hn, go_sem, simprocAttr]
    try rfl
  intro i hi
  try dsimp only
  have ei : (i : Int) + 1 = ((i + 1 : Nat) : Int) := by omega
  by_cases hil : i = ns.length
  · subst hil
    rw [List.take_length]
    have hMt := more_text ns 0
    have hMl := moreL_len ns 0
    obtain ⟨L2, hL2⟩ : ∃ L2, moreL 0 ns = L2 := ⟨_, rfl⟩
    rw [hL2] at mf mb hMt hMl ⊢
    obtain ⟨l1, q1, q2⟩ := mf
    have c27f := f27_ok (123 :: (flatM L2 ++ msL bs)) false
    rw [q1] at c27f
    simp only at c27f
    rw [q2] at c27f
    have c27f : CallsP Tryd.prog 27 [.sl none false 1 (u8 123 :: (flatM L2 ++ msL bs).map u8)] _ := c27f
    by_cases hns : ns = []
    · subst hns
      have hM0 : flatM L2 = [] := by rw [← hL2]; rfl
      rw [hM0] at c27f ⊢
      have c27f' : CallsP Tryd.prog 27 [.sl none false 1 (u8 123 :: (msL bs).map u8)] _ := c27f
      repeat' first
       | with_reducible refine Rl.go (by constructor <;> decide) ?_
       | ((with_reducible first | refine hK _ ?_ | refine hK.1 ?_ | refine hK.2 ?_); clear hK K)
       | ((with_reducible refine condS hK (fun hg => ?_) fun hg => ?_) <;> clear hK K <;> (try simp only [hgW] at hg) <;> try (exfalso; omega))
       | ((first | ((with_reducible first | refine Rk.go k13_VsTMore (by constructor) ?_ | refine Rm.go 11 k13_VsTMore p13_11_VsTMore a13_11_VsTMore o13_11_VsTMore mixed (by constructor) (by kernel_rfl) (by kernel_rfl) (by with_unfolding_all rfl) ?_ | refine Rd.go 15 k13_VsTMore a13_15_VsTMore o13_15_VsTMore mixed (by constructor) (by kernel_rfl) (by kernel_rfl) ?_); intro K hK) | with_reducible refine Rr.go [] (by constructor) ?_ | (with_reducible refine guardP_split (fun hg => ?_) fun hg => ?_) <;> (try simp only [hg]) <;> (try simp only [hgW] at hg) | refine Rc.go c27a (by constructor) ?_ | refine Rc.go (c27f') (by constructor) ?_ | refine Rc.go (c28') (by constructor) ?_) <;> simp -implicitDefEqProofs only [hS1, hS3, CL.cells, hn, go_sem, simprocAttr] <;> try (simp (disch := omega) only [wrW]; try simp -implicitDefEqProofs only [hS1, hS3, CL.cells, hn, go_sem, simprocAttr]))
       | with_reducible refine And.intro (by first | omega | (simp only [hgW]; omega)) ?_
       | (exfalso; omega)
    · obtain ⟨l2, q3, q4⟩ := mb hns
      have c27b := f27_ok (123 :: (flatM bs ++ msL L2)) false
      rw [q3] at c27b
      simp only at c27b
      rw [q4] at c27b
      have hLne : L2 ≠ [] := fun e => by rw [e] at hMl; exact hns (List.length_eq_zero_iff.1 hMl.symm)
      have hfl2 := flat_last L2 hLne
      have hms2 := msL_flat L2 hLne
      obtain ⟨F, hF⟩ : ∃ F, flatM L2 = F := ⟨_, rfl⟩
      rw [hF] at c27f hMt hfl2 hms2 ⊢
      have hFne : F ≠ [] := fun e => by rw [e] at hfl2; simp at hfl2
      have hFp := List.length_pos_iff.2 hFne
      have eF : (F.length : Int) - 1 = ((F.length - 1 : Nat) : Int) := by omega
      have hFe : (F == []) = false := by cases F with | nil => exact absurd rfl hFne | cons => rfl
      have htk : F.take (F.length - 1) = F.dropLast := (List.dropLast_eq_take).symm
      have hPl : (flatM bs).dropLast.length ≤ 3000 := by rw [List.length_dropLast]; omega
      have hQl : F.dropLast.length ≤ 750 := by rw [List.length_dropLast]; omega
      obtain ⟨P, hP⟩ : ∃ P, (flatM bs).dropLast = P := ⟨_, rfl⟩
      obtain ⟨Q, hQ⟩ : ∃ Q, F.dropLast = Q := ⟨_, rfl⟩
      rw [hP] at hfl hS2 hPl
      rw [hQ] at hms2 htk hQl
      have c27b : CallsP Tryd.prog 27 [.sl none false 1 (u8 123 :: (P ++ [44] ++ Q ++ [125]).map u8)] (.tup [.agg w1.cells, .int .i64 (w2 : Int)]) := by
        have e : (123 :: (flatM bs ++ msL L2) : List UInt8) = 123 :: (P ++ [44] ++ Q ++ [125]) := by rw [hms2, ← hfl]; simp
        rw [e] at c27b
        exact c27b
      cases ah
      · skip
        repeat' first
         | with_reducible refine Rl.go (by constructor <;> decide) ?_
         | ((with_reducible first | refine hK _ ?_ | refine hK.1 ?_ | refine hK.2 ?_); clear hK K)
         | ((with_reducible refine condS hK (fun hg => ?_) fun hg => ?_) <;> clear hK K <;> (try simp only [hgW] at hg) <;> try (exfalso; omega))
         | ((first | ((with_reducible first | refine Rk.go k13_VsTMore (by constructor) ?_ | refine Rm.go 11 k13_VsTMore p13_11_VsTMore a13_11_VsTMore o13_11_VsTMore mixed (by constructor) (by kernel_rfl) (by kernel_rfl) (by with_unfolding_all rfl) ?_ | refine Rd.go 15 k13_VsTMore a13_15_VsTMore o13_15_VsTMore mixed (by constructor) (by kernel_rfl) (by kernel_rfl) ?_); intro K hK) | with_reducible refine Rr.go [] (by constructor) ?_ | (with_reducible refine guardP_split (fun hg => ?_) fun hg => ?_) <;> (try simp only [hg]) <;> (try simp only [hgW] at hg) | refine Rc.go c27a (by constructor) ?_ | refine Rc.go c27b (by constructor) ?_ | refine Rc.go (c28') (by constructor) ?_) <;> simp -implicitDefEqProofs only [hS1, hS2, hS3, eS, eF, hFe, htk, CL.cells, Bool.not_false, hn, go_sem, simprocAttr] <;> try (simp (disch := omega) only [wrW]; try simp -implicitDefEqProofs only [hS1, hS2, hS3, eS, eF, hFe, htk, CL.cells, Bool.not_false, hn, go_sem, simprocAttr]))
         | with_reducible refine And.intro (by first | omega | (simp only [hgW]; omega)) ?_
         | (exfalso; omega)
      · skip
        repeat' first
         | with_reducible refine Rl.go (by constructor <;> decide) ?_
         | ((with_reducible first | refine hK _ ?_ | refine hK.1 ?_ | refine hK.2 ?_); clear hK K)
         | ((with_reducible refine condS hK (fun hg => ?_) fun hg => ?_) <;> clear hK K <;> (try simp only [hgW] at hg) <;> try (exfalso; omega))
         | ((first | ((with_reducible first | refine Rk.go k13_VsTMore (by constructor) ?_ | refine Rm.go 11 k13_VsTMore p13_11_VsTMore a13_11_VsTMore o13_11_VsTMore mixed (by constructor) (by kernel_rfl) (by kernel_rfl) (by with_unfolding_all rfl) ?_ | refine Rd.go 15 k13_VsTMore a13_15_VsTMore o13_15_VsTMore mixed (by constructor) (by kernel_rfl) (by kernel_rfl) ?_); intro K hK) | with_reducible refine Rr.go [] (by constructor) ?_ | (with_reducible refine guardP_split (fun hg => ?_) fun hg => ?_) <;> (try simp only [hg]) <;> (try simp only [hgW] at hg) | refine Rc.go c27a (by constructor) ?_ | refine Rc.go c27f (by constructor) ?_ | refine Rc.go (c28') (by constructor) ?_) <;> simp -implicitDefEqProofs only [hS1, hS3, CL.cells, hFe, hn, go_sem, simprocAttr] <;> try (simp (disch := omega) only [wrW]; try simp -implicitDefEqProofs only [hS1, hS3, CL.cells, hFe, hn, go_sem, simprocAttr]))
         | with_reducible refine And.intro (by first | omega | (simp only [hgW]; omega)) ?_
         | (exfalso; omega)
  · obtain ⟨n, hnn⟩ : ∃ n, ns.getD i default = n := ⟨_, rfl⟩
    have hst : flatM (moreL 0 (ns.take (i + 1))) = flatM (moreL 0 (ns.take i)) ++ mtext (moM i n) [44] := by
      rw [List.take_succ_eq_append_getElem (show i < ns.length by omega), moreL_app, flat_app, Nat.zero_add, List.length_take, Nat.min_eq_left (by omega)]
      rw [List.getD_eq_getElem?_getD, List.getElem?_eq_getElem (show i < ns.length by omega)] at hnn
      simp only [Option.getD_some] at hnn
      rw [hnn]
      simp [moreL, flatM]
    have hMt := more_text (ns.take i) 0
    have htl2 : (ns.take i).length = i := by rw [List.length_take]; omega
    obtain ⟨F, hF⟩ : ∃ F, flatM (moreL 0 (ns.take i)) = F := ⟨_, rfl⟩
    rw [hF] at hst hMt ⊢
    rw [htl2] at hMt
    have hnt := n.toNat_lt
    obtain ⟨j, hj, hj4⟩ : ∃ j : Nat, n.toNat % 4 = j ∧ j < 4 := ⟨_, rfl, by omega⟩
    have hj' : (n.toNat : Int) % 4 = (j : Int) := by omega
    obtain ⟨m, hm, hm26⟩ : ∃ m : Nat, n.toNat % 26 = m ∧ m < 26 := ⟨_, rfl, by omega⟩
    have hm' : (n.toNat : Int) % 26 = (m : Int) := by omega
    have hjt : (n.toNat : Int).tmod 4 = (j : Int) := by rw [Int.tmod_eq_emod_of_nonneg (by omega)]; exact hj'
    have hmt2 : (n.toNat : Int).tmod 26 = (m : Int) := by rw [Int.tmod_eq_emod_of_nonneg (by omega)]; exact hm'
    obtain ⟨c1, hc1⟩ : ∃ c1, UInt8.ofNat (97 + i) = c1 := ⟨_, rfl⟩
    obtain ⟨c2, hc2⟩ : ∃ c2, UInt8.ofNat (97 + m) = c2 := ⟨_, rfl⟩
    have hc1t : (97 : Int) + (i : Int) = (c1.toNat : Int) := by rw [← hc1, ofN _ (by omega)]; omega
    have hc2t : (97 : Int) + (m : Int) = (c2.toNat : Int) := by rw [← hc2, ofN _ (by omega)]; omega
    have hc1l := c1.toNat_lt
    have hc2l := c2.toNat_lt
    have hby : bytesOf [AV.int .u8 (c1.toNat : Int), AV.int .u8 (c2.toNat : Int)] = some [c1, c2] := bytesOf_u8 [c1, c2]
    have hvl : [AV.str [49], AV.str [110, 117, 108, 108], AV.str [123, 34, 116, 121, 112, 101, 34, 58, 34, 120, 34, 125], AV.str [91, 34, 65, 65, 34, 93]][j]? = some (AV.str (mvM j).1) := by
      rcases (by omega : j = 0 ∨ j = 1 ∨ j = 2 ∨ j = 3) with rfl | rfl | rfl | rfl <;> rfl
    have hvlen : (mvM j).1.length ≤ 20 := by
      rcases (by omega : j = 0 ∨ j = 1 ∨ j = 2 ∨ j = 3) with rfl | rfl | rfl | rfl <;> decide
    obtain ⟨V, hV⟩ : ∃ V, (mvM j).1 = V := ⟨_, rfl⟩
    rw [hV] at hvl hvlen
    have hmt : mtext (moM i n) [44] = 34 :: 109 :: c1 :: c2 :: 34 :: 58 :: (V ++ [44]) := by
      simp [mtext, moM, nmM, hj, hm, hc1, hc2, hV]
    rw [hmt] at hst
    repeat' first
     | with_reducible refine Rl.go (by constructor <;> decide) ?_
     | ((with_reducible first | refine hK _ ?_ | refine hK.1 ?_ | refine hK.2 ?_); clear hK K)
     | ((with_reducible refine condS hK (fun hg => ?_) fun hg => ?_) <;> clear hK K <;> (try simp only [hgW] at hg) <;> try (exfalso; omega))
     | ((first | ((with_reducible first | refine Rk.go k13_VsTMore (by constructor) ?_ | refine Rm.go 11 k13_VsTMore p13_11_VsTMore a13_11_VsTMore o13_11_VsTMore mixed (by constructor) (by kernel_rfl) (by kernel_rfl) (by with_unfolding_all rfl) ?_ | refine Rd.go 15 k13_VsTMore a13_15_VsTMore o13_15_VsTMore mixed (by constructor) (by kernel_rfl) (by kernel_rfl) ?_); intro K hK) | with_reducible refine Rr.go [] (by constructor) ?_ | (with_reducible refine guardP_split (fun hg => ?_) fun hg => ?_) <;> (try simp only [hg]) <;> (try simp only [hgW] at hg)) <;> simp -implicitDefEqProofs only [u8, hnn, hj', hm', hjt, hmt2, hc1t, hc2t, hby, hvl, hn, go_sem, simprocAttr] <;> try (simp (disch := omega) only [wrW]; try simp -implicitDefEqProofs only [u8, hnn, hj', hm', hjt, hmt2, hc1t, hc2t, hby, hvl, hn, go_sem, simprocAttr]))
     | with_reducible refine And.intro (by first | omega | (simp only [hgW]; omega)) ?_
     | (exfalso; omega)
    all_goals refine ⟨i + 1, ?_, by omega, by omega⟩
    all_goals rw [hst]
    all_goals simp -implicitDefEqProofs only [ei, List.append_assoc, List.cons_append, List.nil_append, hn, go_sem, simprocAttr]
    all_goals try rfl
end Go.Proofs.YtfemncfhiihckaaDoor
