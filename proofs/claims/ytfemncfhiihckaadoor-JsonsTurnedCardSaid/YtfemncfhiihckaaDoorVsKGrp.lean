/- What the document's groups come to. -/
import Derived.Test.YtfemncfhiihckaaDoorVsKName
open Go Go.VS
namespace Go.Proofs.YtfemncfhiihckaaDoor
set_option linter.unusedVariables false
set_option linter.unusedSimpArgs false
set_option maxRecDepth 20000
set_option maxHeartbeats 4000000
/-- Pieces of a group, one behind the other. -/
def grpL (val : RJ → Nat × RJ) (obj : Bool) (shut : UInt8) : Nat → RJ → List (List UInt8) → List Nat → (List (List UInt8) × List Nat) × RJ
  | 0, s, ns, ks => ((ns, ks), s)
  | n + 1, s, ns, ks =>
    if s.err ≠ 0 then ((ns, ks), s)
    else
      let m := if obj = true then nameS s ns else (s, ns)
      if m.1.err ≠ 0 then ((m.2, ks), m.1)
      else
        let v := val m.1
        if v.2.err ≠ 0 then ((m.2, ks ++ [v.1]), v.2)
        else if isC (blankS v.2) shut = true then ((m.2, ks ++ [v.1]), { blankS v.2 with at_ := (blankS v.2).at_ + 1 })
        else
          let w := wordC (blankS v.2) [44]
          grpL val obj shut n (if w.1 = true then w.2 else w.2.fail 11) m.2 (ks ++ [v.1])
def groupB (s : RJ) : RJ := blankS { s with deep := s.deep + 1, at_ := s.at_ + 1 }
def shutC (s : RJ) : UInt8 := if isC s 123 = true then 125 else 93
def kindC (s : RJ) : Nat := if isC s 123 = true then 1 else 2
def groupS (val : RJ → Nat × RJ) (s : RJ) : JN × RJ :=
  if s.deep = 8 then (⟨kindC s, [], [], []⟩, s.fail 13)
  else if isC (groupB s) (shutC s) = true then (⟨kindC s, [], [], []⟩, { groupB s with at_ := (groupB s).at_ + 1, deep := (groupB s).deep - 1 })
  else (⟨kindC s, [], (grpL val (isC s 123) (shutC s) 300 (groupB s) [] []).1.1, (grpL val (isC s 123) (shutC s) 300 (groupB s) [] []).1.2⟩, { (grpL val (isC s 123) (shutC s) 300 (groupB s) [] []).2 with deep := (grpL val (isC s 123) (shutC s) 300 (groupB s) [] []).2.deep - 1 })
def ValRk (val : RJ → Nat × RJ) (d : Nat) : Prop := ∀ (s : RJ) (nb : Bool), s.deep = d → OkJ s → s.err = 0 → CallsB Tryd.prog 39 [.ptr 1000000 0] [s.cells nb (4, 0)] (.int .i64 ((val s).1 : Int)) [(val s).2.cells nb (3, 0)]
structure GrpI (val : RJ → Nat × RJ) (obj : Bool) (shut : UInt8) (D : Nat) (b : List UInt8) (R : (List (List UInt8) × List Nat) × RJ) (x : Nat × RJ × List (List UInt8) × List Nat) : Prop where
  deep : x.2.1.deep = D
  eb : x.2.1.b = b
  ok : OkJ x.2.1
  fu : x.2.1.err = 0 → 256 < x.1 + x.2.1.nodes.length
  kl : x.2.2.2.length + x.1 ≤ 300
  nl : x.2.2.1.length + x.1 ≤ 300
  eq : grpL val obj shut x.1 x.2.1 x.2.2.1 x.2.2.2 = R
theorem at_keep (s : RJ) (h : OkJ s) (hat : s.at_ < s.b.length) : KeepB s { s with at_ := s.at_ + 1 } := keep_at s _ hat h
def k52_VsKGrp : List Nat := [0,2,3,4,5,8,14,38,60,63,70,83,88,99]
attribute [go_sem] k52_VsKGrp
theorem f52_ok {val : RJ → Nat × RJ} (K : KeepV val) (hm : ∀ s, OkJ s → s.nodes.length ≤ (val s).2.nodes.length) (s : RJ) (nb : Bool) (hit : s.deep + 1 ≤ 8 → ValRk val (s.deep + 1)) (hok : OkJ s) (he : s.err = 0) (hc : isC s 123 = true ∨ isC s 91 = true) (hdp : s.deep ≤ 8) :
    CallsB Tryd.prog 52 [.ptr 1000000 0] [s.cells nb (4, 0)] (groupS val s).1.av [(groupS val s).2.cells nb (3, 0)] := by
  have c51a := f51_ok s nb hok 123
  have hat : s.at_ < s.b.length := by rcases hc with h | h <;> exact (isC_lt h).1
  have c41a := f41_ok s nb 13
  obtain ⟨R, hR⟩ : ∃ R, groupS val s = R := ⟨_, rfl⟩
  rw [hR]
  unfold groupS at hR
  have hk1 : (isC s 123 = true → kindC s = 1 ∧ shutC s = 125) ∧ (isC s 123 = false → kindC s = 2 ∧ shutC s = 93) := by
    unfold kindC shutC
    exact ⟨fun h => by rw [if_pos h, if_pos h]; exact ⟨rfl, rfl⟩, fun h => by rw [h]; exact ⟨rfl, rfl⟩⟩
  by_cases h8 : s.deep = 8
  · rw [if_pos h8] at hR
    subst hR
    generalize s.fail 13 = F at *
    generalize isC s 123 = q at *
    generalize kindC s = kd at *
    generalize shutC s = sh at *
    obtain ⟨b, at_, deep, nodes, err⟩ := s
    obtain ⟨Fb, Fa, Fd, Fn, Fe⟩ := F
    simp only at h8
    subst h8
    cases q with
    | true =>
      obtain ⟨rfl, rfl⟩ := hk1.1 rfl
      refine CallsB.introF Tryd.func52 rfl (by show 1 ≤ 111; decide) ?_
      rintro X hX
      have hn : X.n = 111 := hX
      unfold Tryd.f52
      dsimp only
      rw [entryB11]
      repeat' first
       | with_reducible refine Rl.go (by constructor <;> decide) ?_
       | ((with_reducible first | refine hK _ ?_ | refine hK.1 ?_ | refine hK.2 ?_); clear hK K)
       | ((with_reducible refine condS hK (fun hg => ?_) fun hg => ?_) <;> clear hK K <;> (try simp only [hgW] at hg) <;> try (exfalso; omega))
       | ((first | ((with_reducible first | refine Rk.go k52_VsKGrp (by constructor) ?_); intro K hK) | with_reducible refine Rr.go [] (by constructor) ?_ | (with_reducible refine guardP_split (fun hg => ?_) fun hg => ?_) <;> (try simp only [hg]) <;> (try simp only [hgW] at hg) | (with_reducible refine callE_B3 c51a ?_) | (with_reducible refine callE_B3 c41a ?_)) <;> simp -implicitDefEqProofs only [eqOk_true, RJ.cells, JN.av, hn, go_sem, simprocAttr] <;> try (simp (disch := omega) only [wrW]; try simp -implicitDefEqProofs only [RJ.cells, JN.av, hn, go_sem, simprocAttr]))
       | with_reducible refine And.intro (by first | omega | (simp only [hgW]; omega)) ?_
       | (exfalso; omega)
    | false =>
      obtain ⟨rfl, rfl⟩ := hk1.2 rfl
      refine CallsB.introF Tryd.func52 rfl (by show 1 ≤ 111; decide) ?_
      rintro X hX
      have hn : X.n = 111 := hX
      unfold Tryd.f52
      dsimp only
      rw [entryB11]
      repeat' first
       | with_reducible refine Rl.go (by constructor <;> decide) ?_
       | ((with_reducible first | refine hK _ ?_ | refine hK.1 ?_ | refine hK.2 ?_); clear hK K)
       | ((with_reducible refine condS hK (fun hg => ?_) fun hg => ?_) <;> clear hK K <;> (try simp only [hgW] at hg) <;> try (exfalso; omega))
       | ((first | ((with_reducible first | refine Rk.go k52_VsKGrp (by constructor) ?_); intro K hK) | with_reducible refine Rr.go [] (by constructor) ?_ | (with_reducible refine guardP_split (fun hg => ?_) fun hg => ?_) <;> (try simp only [hg]) <;> (try simp only [hgW] at hg) | (with_reducible refine callE_B3 c51a ?_) | (with_reducible refine callE_B3 c41a ?_)) <;> simp -implicitDefEqProofs only [eqOk_true, RJ.cells, JN.av, hn, go_sem, simprocAttr] <;> try (simp (disch := omega) only [wrW]; try simp -implicitDefEqProofs only [RJ.cells, JN.av, hn, go_sem, simprocAttr]))
       | with_reducible refine And.intro (by first | omega | (simp only [hgW]; omega)) ?_
       | (exfalso; omega)
  rw [if_neg h8] at hR
  have k1 : OkJ { s with deep := s.deep + 1, at_ := s.at_ + 1 } := ⟨hat, hok.len, hok.nod⟩
  have c40 := f40_ok _ nb k1
  have k2 := blank_keep _ k1
  have hGe : (groupB s).err = 0 := he
  have c40' : CallsB Tryd.prog 40 [.ptr 1000000 0] [RJ.cells { s with deep := s.deep + 1, at_ := s.at_ + 1 } nb (4, 0)] (.tup []) [(groupB s).cells nb (3, 0)] := c40
  have k2' : KeepB { s with deep := s.deep + 1, at_ := s.at_ + 1 } (groupB s) := k2
  clear c40 k2
  generalize groupB s = G at *
  have c51b := f51_ok G nb k2'.ok (shutC s)
  have hGlt := isC_lt (s := G) (c := shutC s)
  generalize hq2 : isC G (shutC s) = q2 at *
  generalize isC s 123 = q at *
  generalize kindC s = kd at *
  generalize shutC s = sh at *
  obtain ⟨b, at_, deep, nodes, err⟩ := s
  obtain ⟨Gb, Ga, Gd, Gn, Ge⟩ := G
  obtain ⟨z1, z2, z3, z4⟩ := k2'
  simp only at z1 z2 z4 he hGe h8 hdp hat
  subst he hGe z1 z2
  have ad : (deep : Int) + 1 = ((deep + 1 : Nat) : Int) := by omega
  have aa : (at_ : Int) + 1 = ((at_ + 1 : Nat) : Int) := by omega
  have ag : (Ga : Int) + 1 = ((Ga + 1 : Nat) : Int) := by omega
  have z3l := z3.len
  have z3a := z3.at_
  simp only at z3l z3a
  have e1 : ((deep + 1 : Nat) : Int) - 1 = ((deep + 1 - 1 : Nat) : Int) := by omega
  cases q2 with
  | true =>
    rw [if_pos rfl] at hR
    subst hR
    cases q with
    | true =>
      obtain ⟨rfl, rfl⟩ := hk1.1 rfl
      refine CallsB.introF Tryd.func52 rfl (by show 1 ≤ 111; decide) ?_
      rintro X hX
      have hn : X.n = 111 := hX
      unfold Tryd.f52
      dsimp only
      rw [entryB11]
      repeat' first
       | with_reducible refine Rl.go (by constructor <;> decide) ?_
       | ((with_reducible first | refine hK _ ?_ | refine hK.1 ?_ | refine hK.2 ?_); clear hK K)
       | ((with_reducible refine condS hK (fun hg => ?_) fun hg => ?_) <;> clear hK K <;> (try simp only [hgW] at hg) <;> try (exfalso; omega))
       | ((with_reducible refine callE_B3 c51a ?_); simp -implicitDefEqProofs only [eqOk_true, RJ.cells, JN.av, ad, aa, ag, e1, hn, go_sem, simprocAttr]; (skip; try (simp (disch := omega) only [wrW]; try simp -implicitDefEqProofs only [RJ.cells, JN.av, ad, aa, ag, e1, hn, go_sem, simprocAttr])); fail_if_success (with_reducible refine eqOk_mk ?_))
       | ((with_reducible refine callE_B3 c51b ?_); simp -implicitDefEqProofs only [eqOk_true, RJ.cells, JN.av, ad, aa, ag, e1, hn, go_sem, simprocAttr]; (skip; try (simp (disch := omega) only [wrW]; try simp -implicitDefEqProofs only [RJ.cells, JN.av, ad, aa, ag, e1, hn, go_sem, simprocAttr])); fail_if_success (with_reducible refine eqOk_mk ?_))
       | ((first | ((with_reducible first | refine Rk.go k52_VsKGrp (by constructor) ?_); intro K hK) | with_reducible refine Rr.go [] (by constructor) ?_ | (with_reducible refine guardP_split (fun hg => ?_) fun hg => ?_) <;> (try simp only [hg]) <;> (try simp only [hgW] at hg) | (with_reducible refine callE_B3 (c40') ?_)) <;> simp -implicitDefEqProofs only [eqOk_true, RJ.cells, JN.av, ad, aa, ag, e1, hn, go_sem, simprocAttr] <;> try (simp (disch := omega) only [wrW]; try simp -implicitDefEqProofs only [RJ.cells, JN.av, ad, aa, ag, e1, hn, go_sem, simprocAttr]))
       | with_reducible refine And.intro (by first | omega | (simp only [hgW]; omega)) ?_
       | (exfalso; omega)
    | false =>
      obtain ⟨rfl, rfl⟩ := hk1.2 rfl
      refine CallsB.introF Tryd.func52 rfl (by show 1 ≤ 111; decide) ?_
      rintro X hX
      have hn : X.n = 111 := hX
      unfold Tryd.f52
      dsimp only
      rw [entryB11]
      repeat' first
       | with_reducible refine Rl.go (by constructor <;> decide) ?_
       | ((with_reducible first | refine hK _ ?_ | refine hK.1 ?_ | refine hK.2 ?_); clear hK K)
       | ((with_reducible refine condS hK (fun hg => ?_) fun hg => ?_) <;> clear hK K <;> (try simp only [hgW] at hg) <;> try (exfalso; omega))
       | ((with_reducible refine callE_B3 c51a ?_); simp -implicitDefEqProofs only [eqOk_true, RJ.cells, JN.av, ad, aa, ag, e1, hn, go_sem, simprocAttr]; (skip; try (simp (disch := omega) only [wrW]; try simp -implicitDefEqProofs only [RJ.cells, JN.av, ad, aa, ag, e1, hn, go_sem, simprocAttr])); fail_if_success (with_reducible refine eqOk_mk ?_))
       | ((with_reducible refine callE_B3 c51b ?_); simp -implicitDefEqProofs only [eqOk_true, RJ.cells, JN.av, ad, aa, ag, e1, hn, go_sem, simprocAttr]; (skip; try (simp (disch := omega) only [wrW]; try simp -implicitDefEqProofs only [RJ.cells, JN.av, ad, aa, ag, e1, hn, go_sem, simprocAttr])); fail_if_success (with_reducible refine eqOk_mk ?_))
       | ((first | ((with_reducible first | refine Rk.go k52_VsKGrp (by constructor) ?_); intro K hK) | with_reducible refine Rr.go [] (by constructor) ?_ | (with_reducible refine guardP_split (fun hg => ?_) fun hg => ?_) <;> (try simp only [hg]) <;> (try simp only [hgW] at hg) | (with_reducible refine callE_B3 (c40') ?_)) <;> simp -implicitDefEqProofs only [eqOk_true, RJ.cells, JN.av, ad, aa, ag, e1, hn, go_sem, simprocAttr] <;> try (simp (disch := omega) only [wrW]; try simp -implicitDefEqProofs only [RJ.cells, JN.av, ad, aa, ag, e1, hn, go_sem, simprocAttr]))
       | with_reducible refine And.intro (by first | omega | (simp only [hgW]; omega)) ?_
       | (exfalso; omega)
  | false =>
    rw [if_neg (by decide)] at hR
    obtain ⟨A, hA⟩ : ∃ A, grpL val q sh 300 ⟨Gb, Ga, deep + 1, Gn, 0⟩ [] [] = A := ⟨_, rfl⟩
    rw [hA] at hR
    have hq : (q = true ∧ kd = 1 ∧ sh = 125) ∨ (q = false ∧ kd = 2 ∧ sh = 93) := by
      cases q with
      | true => exact .inl ⟨rfl, hk1.1 rfl⟩
      | false => exact .inr ⟨rfl, hk1.2 rfl⟩
    clear hk1
    rcases hq with ⟨rfl, rfl, rfl⟩ | ⟨rfl, rfl, rfl⟩
    · refine CallsB.introF Tryd.func52 rfl (by show 1 ≤ 111; decide) ?_
      rintro X hX
      have hn : X.n = 111 := hX
      unfold Tryd.f52
      dsimp only
      rw [entryB11]
      repeat' first
       | with_reducible refine Rl.go (by constructor <;> decide) ?_
       | ((with_reducible first | refine hK _ ?_ | refine hK.1 ?_ | refine hK.2 ?_); clear hK K)
       | ((with_reducible refine condS hK (fun hg => ?_) fun hg => ?_) <;> clear hK K <;> (try simp only [hgW] at hg) <;> try (exfalso; omega))
       | ((with_reducible refine callE_B3 c51a ?_); simp -implicitDefEqProofs only [eqOk_true, RJ.cells, JN.av, ad, aa, ag, hn, go_sem, simprocAttr]; (skip; try (simp (disch := omega) only [wrW]; try simp -implicitDefEqProofs only [RJ.cells, JN.av, ad, aa, ag, hn, go_sem, simprocAttr])); fail_if_success (with_reducible refine eqOk_mk ?_))
       | ((with_reducible refine callE_B3 c51b ?_); simp -implicitDefEqProofs only [eqOk_true, RJ.cells, JN.av, ad, aa, ag, hn, go_sem, simprocAttr]; (skip; try (simp (disch := omega) only [wrW]; try simp -implicitDefEqProofs only [RJ.cells, JN.av, ad, aa, ag, hn, go_sem, simprocAttr])); fail_if_success (with_reducible refine eqOk_mk ?_))
       | ((first | ((with_reducible first | refine Rk.go k52_VsKGrp (by constructor) ?_); intro K hK) | with_reducible refine Rr.go [] (by constructor) ?_ | (with_reducible refine guardP_split (fun hg => ?_) fun hg => ?_) <;> (try simp only [hg]) <;> (try simp only [hgW] at hg) | (with_reducible refine callE_B3 (c40') ?_)) <;> simp -implicitDefEqProofs only [eqOk_true, RJ.cells, JN.av, ad, aa, ag, hn, go_sem, simprocAttr] <;> try (simp (disch := omega) only [wrW]; try simp -implicitDefEqProofs only [RJ.cells, JN.av, ad, aa, ag, hn, go_sem, simprocAttr]))
       | with_reducible refine And.intro (by first | omega | (simp only [hgW]; omega)) ?_
       | (exfalso; omega)
      refine AWP.adoptB 3 2 (0, 998) 0 1 (by rfl) (by rfl) ?_
      refine AWP.adoptB 3 3 (0, 999) 0 1 (by rfl) (by rfl) ?_
      refine AWP.loopX [0, 2, 3, 4] [] (fun x : Nat × RJ × List (List UInt8) × List Nat => St.mk (lk [(0, .ptr 1000000 0), (2, .ptr 2 0), (3, .ptr 3 0), (4, .int .u8 125)])
          (lkB [(1000000, x.2.1.cells nb (4, 0)), (2, [.int .u8 0, .str [], .sl none true 1 [], .sl none true 1 []]), (3, nodeC 1 x.2.2.1 x.2.2.2 (0, 998) (0, 999))]) (hasS []) (hasS []) (hasN []) (lkR []))
        (GrpI val true 125 (deep + 1) Gb A) (fun x => x.1) (300, ⟨Gb, Ga, deep + 1, Gn, 0⟩, [], []) ?_ ⟨rfl, rfl, z3, fun _ => by simp only; omega, by simp, by simp, hA⟩ ?_
      · simp -implicitDefEqProofs only [RJ.cells, nodeC, hn, go_sem, simprocAttr]
        try rfl
      rintro ⟨n, s2, ns, ks⟩ ⟨x1, x2, x3, x5, x6, x6', x7⟩
      simp only at x1 x2 x3 x5 x6 x6' x7
      by_cases he : s2.err = 0
      · have x5' := x5 he
        have hnl := x3.nod
        obtain ⟨n, rfl⟩ : ∃ m, n = m + 1 := ⟨n - 1, by omega⟩
        unfold grpL at x7
        rw [if_neg (by simpa using he)] at x7
        have c67 := f67_ok s2 nb x3 1 ns ks (by omega)
        obtain ⟨kM, hml⟩ := name_keep s2 ns x3
        generalize nameS s2 ns = M at *
        obtain ⟨m1, m2⟩ := M
        simp only [if_true] at c67 kM hml x7
        by_cases hme : m1.err ≠ 0
        · rw [if_pos hme] at x7
          subst x7
          subst hR
          have hmd := kM.deep
          obtain ⟨s2b, s2a, s2d, s2n, s2e⟩ := s2
          obtain ⟨m1b, m1a, m1d, m1n, m1e⟩ := m1
          simp only at he hme hmd x1
          subst he
          have ed : (m1d : Int) - 1 = ((m1d - 1 : Nat) : Int) := by omega
          repeat' first
           | with_reducible refine Rl.go (by constructor <;> decide) ?_
           | ((with_reducible first | refine hK _ ?_ | refine hK.1 ?_ | refine hK.2 ?_); clear hK K)
           | ((with_reducible refine condS hK (fun hg => ?_) fun hg => ?_) <;> clear hK K <;> (try simp only [hgW] at hg) <;> try (exfalso; omega))
           | ((first | ((with_reducible first | refine Rk.go k52_VsKGrp (by constructor) ?_); intro K hK) | with_reducible refine Rr.go [] (by constructor) ?_ | (with_reducible refine guardP_split (fun hg => ?_) fun hg => ?_) <;> (try simp only [hg]) <;> (try simp only [hgW] at hg) | (with_reducible refine callE_B3 c51a ?_) | (with_reducible refine callE_B3 c67 ?_)) <;> simp -implicitDefEqProofs only [eqOk_true, RJ.cells, JN.av, nodeC, hme, ed, hn, go_sem, simprocAttr] <;> try (simp (disch := omega) only [wrW]; try simp -implicitDefEqProofs only [RJ.cells, JN.av, nodeC, hme, ed, hn, go_sem, simprocAttr]))
           | with_reducible refine And.intro (by first | omega | (simp only [hgW]; omega)) ?_
           | (exfalso; omega)
        rw [if_neg hme] at x7
        have hme : m1.err = 0 := Classical.not_not.1 hme
        have hmd : m1.deep = deep + 1 := kM.deep.trans x1
        have cV := hit (by simp only; omega) m1 nb hmd kM.ok hme
        have kV := keep_val K hm m1 kM.ok
        have km := K.more m1 kM.ok
        generalize val m1 = V at *
        obtain ⟨v, V2⟩ := V
        simp only at cV kV km x7
        have e1' : ks.map i64n ++ [AV.int .i64 (v : Int)] = (ks ++ [v]).map i64n := by rw [List.map_append]; rfl
        have e3 : (ks ++ [v]).isEmpty = false := by simp
        by_cases hve : V2.err ≠ 0
        · rw [if_pos hve] at x7
          subst x7
          subst hR
          have hvd := kV.deep
          obtain ⟨Vb, Va, Vd, Vn, Ve⟩ := V2
          obtain ⟨s2b, s2a, s2d, s2n, s2e⟩ := s2
          obtain ⟨m1b, m1a, m1d, m1n, m1e⟩ := m1
          simp only at he hme hve hmd hvd
          subst he hme
          have ed : (Vd : Int) - 1 = ((Vd - 1 : Nat) : Int) := by omega
          repeat' first
           | with_reducible refine Rl.go (by constructor <;> decide) ?_
           | ((with_reducible first | refine hK _ ?_ | refine hK.1 ?_ | refine hK.2 ?_); clear hK K)
           | ((with_reducible refine condS hK (fun hg => ?_) fun hg => ?_) <;> clear hK K <;> (try simp only [hgW] at hg) <;> try (exfalso; omega))
           | ((with_reducible refine callE_B3 cV ?_); simp -implicitDefEqProofs only [eqOk_true, RJ.cells, JN.av, nodeC, hve, ed, e1', e3, hn, go_sem, simprocAttr]; (skip; try (simp (disch := omega) only [wrW]; try simp -implicitDefEqProofs only [RJ.cells, JN.av, nodeC, hve, ed, e1', e3, hn, go_sem, simprocAttr])); fail_if_success (with_reducible refine eqOk_mk ?_))
           | ((first | ((with_reducible first | refine Rk.go k52_VsKGrp (by constructor) ?_); intro K hK) | with_reducible refine Rr.go [] (by constructor) ?_ | (with_reducible refine guardP_split (fun hg => ?_) fun hg => ?_) <;> (try simp only [hg]) <;> (try simp only [hgW] at hg) | (with_reducible refine callE_B3 c67 ?_)) <;> simp -implicitDefEqProofs only [eqOk_true, RJ.cells, JN.av, nodeC, hve, ed, e1', e3, hn, go_sem, simprocAttr] <;> try (simp (disch := omega) only [wrW]; try simp -implicitDefEqProofs only [RJ.cells, JN.av, nodeC, hve, ed, e1', e3, hn, go_sem, simprocAttr]))
           | with_reducible refine And.intro (by first | omega | (simp only [hgW]; omega)) ?_
           | (exfalso; omega)
        rw [if_neg hve] at x7
        have hve : V2.err = 0 := Classical.not_not.1 hve
        have c40b := f40_ok V2 nb kV.ok
        have kB := blank_keep V2 kV.ok
        have hBe : (blankS V2).err = 0 := hve
        generalize blankS V2 = B2 at *
        have c51c := f51_ok B2 nb kB.ok 125
        have hBlt := isC_lt (s := B2) (c := 125)
        generalize isC B2 125 = q3 at *
        cases q3 with
        | true =>
          rw [if_pos rfl] at x7
          subst x7
          subst hR
          have hvd := kV.deep
          have hbd := kB.deep
          have hba := (hBlt rfl).1
          have hbl := kB.ok.len
          obtain ⟨Vb, Va, Vd, Vn, Ve⟩ := V2
          obtain ⟨Bb, Ba, Bd, Bn, Be⟩ := B2
          obtain ⟨s2b, s2a, s2d, s2n, s2e⟩ := s2
          obtain ⟨m1b, m1a, m1d, m1n, m1e⟩ := m1
          simp only at he hme hve hmd hvd hbd hBe hba hbl
          subst he hme hve hBe
          have ed : (Bd : Int) - 1 = ((Bd - 1 : Nat) : Int) := by omega
          have ea : (Ba : Int) + 1 = ((Ba + 1 : Nat) : Int) := by omega
          repeat' first
           | with_reducible refine Rl.go (by constructor <;> decide) ?_
           | ((with_reducible first | refine hK _ ?_ | refine hK.1 ?_ | refine hK.2 ?_); clear hK K)
           | ((with_reducible refine condS hK (fun hg => ?_) fun hg => ?_) <;> clear hK K <;> (try simp only [hgW] at hg) <;> try (exfalso; omega))
           | ((with_reducible refine callE_B3 cV ?_); simp -implicitDefEqProofs only [eqOk_true, RJ.cells, JN.av, nodeC, ed, ea, e1', e3, hn, go_sem, simprocAttr]; (skip; try (simp (disch := omega) only [wrW]; try simp -implicitDefEqProofs only [RJ.cells, JN.av, nodeC, ed, ea, e1', e3, hn, go_sem, simprocAttr])); fail_if_success (with_reducible refine eqOk_mk ?_))
           | ((first | ((with_reducible first | refine Rk.go k52_VsKGrp (by constructor) ?_); intro K hK) | with_reducible refine Rr.go [] (by constructor) ?_ | (with_reducible refine guardP_split (fun hg => ?_) fun hg => ?_) <;> (try simp only [hg]) <;> (try simp only [hgW] at hg) | (with_reducible refine callE_B3 c40b ?_) | (with_reducible refine callE_B3 c51c ?_) | (with_reducible refine callE_B3 c67 ?_)) <;> simp -implicitDefEqProofs only [eqOk_true, RJ.cells, JN.av, nodeC, ed, ea, e1', e3, hn, go_sem, simprocAttr] <;> try (simp (disch := omega) only [wrW]; try simp -implicitDefEqProofs only [RJ.cells, JN.av, nodeC, ed, ea, e1', e3, hn, go_sem, simprocAttr]))
           | with_reducible refine And.intro (by first | omega | (simp only [hgW]; omega)) ?_
           | (exfalso; omega)
        | false =>
          rw [if_neg (by decide)] at x7
          have c54 := f54_ok B2 nb kB.ok [44] (by decide)
          have kW := word_keepC B2 [44] kB.ok
          have hWe : (wordC B2 [44]).2.err = 0 := hBe
          generalize wordC B2 [44] = W at *
          obtain ⟨w, W2⟩ := W
          simp only at c54 kW x7 hWe
          have kk := kM.trans (kV.trans (kB.trans kW))
          have kmm := kM.more
          have km' := km hve
          have kbm := (kB.trans kW).more
          cases w with
          | true =>
            rw [if_pos rfl] at x7
            obtain ⟨Vb, Va, Vd, Vn, Ve⟩ := V2
            obtain ⟨Bb, Ba, Bd, Bn, Be⟩ := B2
            obtain ⟨Wb, Wa, Wd, Wn, We⟩ := W2
            obtain ⟨s2b, s2a, s2d, s2n, s2e⟩ := s2
            obtain ⟨m1b, m1a, m1d, m1n, m1e⟩ := m1
            simp only at he hme hve hBe
            subst he hme hve hBe
            repeat' first
             | with_reducible refine Rl.go (by constructor <;> decide) ?_
             | ((with_reducible first | refine hK _ ?_ | refine hK.1 ?_ | refine hK.2 ?_); clear hK K)
             | ((with_reducible refine condS hK (fun hg => ?_) fun hg => ?_) <;> clear hK K <;> (try simp only [hgW] at hg) <;> try (exfalso; omega))
             | ((with_reducible refine callE_B3 cV ?_); simp -implicitDefEqProofs only [eqOk_true, RJ.cells, JN.av, nodeC, e1', e3, hn, go_sem, simprocAttr]; (skip; try (simp (disch := omega) only [wrW]; try simp -implicitDefEqProofs only [RJ.cells, JN.av, nodeC, e1', e3, hn, go_sem, simprocAttr])); fail_if_success (with_reducible refine eqOk_mk ?_))
             | ((first | ((with_reducible first | refine Rk.go k52_VsKGrp (by constructor) ?_); intro K hK) | with_reducible refine Rr.go [] (by constructor) ?_ | (with_reducible refine guardP_split (fun hg => ?_) fun hg => ?_) <;> (try simp only [hg]) <;> (try simp only [hgW] at hg) | (with_reducible refine callE_B3 c40b ?_) | (with_reducible refine callE_B3 c51c ?_) | (with_reducible refine callE_B3 c54 ?_) | (with_reducible refine callE_B3 c67 ?_)) <;> simp -implicitDefEqProofs only [eqOk_true, RJ.cells, JN.av, nodeC, e1', e3, hn, go_sem, simprocAttr] <;> try (simp (disch := omega) only [wrW]; try simp -implicitDefEqProofs only [RJ.cells, JN.av, nodeC, e1', e3, hn, go_sem, simprocAttr]))
             | with_reducible refine And.intro (by first | omega | (simp only [hgW]; omega)) ?_
             | (exfalso; omega)
            all_goals
              refine ⟨(n, ⟨Wb, Wa, Wd, Wn, We⟩, m2, ks ++ [v]), ?_, ⟨kk.deep.trans x1, kk.b.trans x2, kk.ok, fun _ => by simp only at *; omega, by simp only [List.length_append, List.length_cons, List.length_nil]; omega, by simp only; omega, x7⟩, by simp only; omega⟩
              simp -implicitDefEqProofs only [RJ.cells, nodeC, e3, hn, go_sem, simprocAttr]
              try rfl
          | false =>
            rw [if_neg (by decide)] at x7
            have c41 := f41_ok W2 nb 11
            have kF := keep_fail W2 11 kW.ok
            have w5 := (fail_b W2 11).2.2.2.2 (by decide)
            generalize W2.fail 11 = F at *
            have kkF := kk.trans kF
            obtain ⟨Vb, Va, Vd, Vn, Ve⟩ := V2
            obtain ⟨Bb, Ba, Bd, Bn, Be⟩ := B2
            obtain ⟨Wb, Wa, Wd, Wn, We⟩ := W2
            obtain ⟨Fb, Fa, Fd, Fn, Fe⟩ := F
            obtain ⟨s2b, s2a, s2d, s2n, s2e⟩ := s2
            obtain ⟨m1b, m1a, m1d, m1n, m1e⟩ := m1
            simp only at he hme hve hBe
            subst he hme hve hBe
            repeat' first
             | with_reducible refine Rl.go (by constructor <;> decide) ?_
             | ((with_reducible first | refine hK _ ?_ | refine hK.1 ?_ | refine hK.2 ?_); clear hK K)
             | ((with_reducible refine condS hK (fun hg => ?_) fun hg => ?_) <;> clear hK K <;> (try simp only [hgW] at hg) <;> try (exfalso; omega))
             | ((with_reducible refine callE_B3 cV ?_); simp -implicitDefEqProofs only [eqOk_true, RJ.cells, JN.av, nodeC, e1', e3, hn, go_sem, simprocAttr]; (skip; try (simp (disch := omega) only [wrW]; try simp -implicitDefEqProofs only [RJ.cells, JN.av, nodeC, e1', e3, hn, go_sem, simprocAttr])); fail_if_success (with_reducible refine eqOk_mk ?_))
             | ((first | ((with_reducible first | refine Rk.go k52_VsKGrp (by constructor) ?_); intro K hK) | with_reducible refine Rr.go [] (by constructor) ?_ | (with_reducible refine guardP_split (fun hg => ?_) fun hg => ?_) <;> (try simp only [hg]) <;> (try simp only [hgW] at hg) | (with_reducible refine callE_B3 c40b ?_) | (with_reducible refine callE_B3 c51c ?_) | (with_reducible refine callE_B3 c54 ?_) | (with_reducible refine callE_B3 c41 ?_) | (with_reducible refine callE_B3 c67 ?_)) <;> simp -implicitDefEqProofs only [eqOk_true, RJ.cells, JN.av, nodeC, e1', e3, hn, go_sem, simprocAttr] <;> try (simp (disch := omega) only [wrW]; try simp -implicitDefEqProofs only [RJ.cells, JN.av, nodeC, e1', e3, hn, go_sem, simprocAttr]))
             | with_reducible refine And.intro (by first | omega | (simp only [hgW]; omega)) ?_
             | (exfalso; omega)
            all_goals
              refine ⟨(n, ⟨Fb, Fa, Fd, Fn, Fe⟩, m2, ks ++ [v]), ?_, ⟨kkF.deep.trans x1, kkF.b.trans x2, kkF.ok, fun h => absurd h w5, by simp only [List.length_append, List.length_cons, List.length_nil]; omega, by simp only; omega, x7⟩, by simp only; omega⟩
              simp -implicitDefEqProofs only [RJ.cells, nodeC, e3, hn, go_sem, simprocAttr]
              try rfl
      · have hA' : A = ((ns, ks), s2) := by
          rw [← x7]
          cases n with
          | zero => rfl
          | succ n => unfold grpL; rw [if_pos he]
        subst hA'
        subst hR
        obtain ⟨s2b, s2a, s2d, s2n, s2e⟩ := s2
        simp only at he x1
        subst x1
        repeat' first
         | with_reducible refine Rl.go (by constructor <;> decide) ?_
         | ((with_reducible first | refine hK _ ?_ | refine hK.1 ?_ | refine hK.2 ?_); clear hK K)
         | ((with_reducible refine condS hK (fun hg => ?_) fun hg => ?_) <;> clear hK K <;> (try simp only [hgW] at hg) <;> try (exfalso; omega))
         | ((first | ((with_reducible first | refine Rk.go k52_VsKGrp (by constructor) ?_); intro K hK) | with_reducible refine Rr.go [] (by constructor) ?_ | (with_reducible refine guardP_split (fun hg => ?_) fun hg => ?_) <;> (try simp only [hg]) <;> (try simp only [hgW] at hg)) <;> simp -implicitDefEqProofs only [RJ.cells, JN.av, nodeC, he, e1, hn, go_sem, simprocAttr] <;> try (simp (disch := omega) only [wrW]; try simp -implicitDefEqProofs only [RJ.cells, JN.av, nodeC, he, e1, hn, go_sem, simprocAttr]))
         | with_reducible refine And.intro (by first | omega | (simp only [hgW]; omega)) ?_
         | (exfalso; omega)
    · refine CallsB.introF Tryd.func52 rfl (by show 1 ≤ 111; decide) ?_
      rintro X hX
      have hn : X.n = 111 := hX
      unfold Tryd.f52
      dsimp only
      rw [entryB11]
      repeat' first
       | with_reducible refine Rl.go (by constructor <;> decide) ?_
       | ((with_reducible first | refine hK _ ?_ | refine hK.1 ?_ | refine hK.2 ?_); clear hK K)
       | ((with_reducible refine condS hK (fun hg => ?_) fun hg => ?_) <;> clear hK K <;> (try simp only [hgW] at hg) <;> try (exfalso; omega))
       | ((with_reducible refine callE_B3 c51a ?_); simp -implicitDefEqProofs only [eqOk_true, RJ.cells, JN.av, ad, aa, ag, hn, go_sem, simprocAttr]; (skip; try (simp (disch := omega) only [wrW]; try simp -implicitDefEqProofs only [RJ.cells, JN.av, ad, aa, ag, hn, go_sem, simprocAttr])); fail_if_success (with_reducible refine eqOk_mk ?_))
       | ((with_reducible refine callE_B3 c51b ?_); simp -implicitDefEqProofs only [eqOk_true, RJ.cells, JN.av, ad, aa, ag, hn, go_sem, simprocAttr]; (skip; try (simp (disch := omega) only [wrW]; try simp -implicitDefEqProofs only [RJ.cells, JN.av, ad, aa, ag, hn, go_sem, simprocAttr])); fail_if_success (with_reducible refine eqOk_mk ?_))
       | ((first | ((with_reducible first | refine Rk.go k52_VsKGrp (by constructor) ?_); intro K hK) | with_reducible refine Rr.go [] (by constructor) ?_ | (with_reducible refine guardP_split (fun hg => ?_) fun hg => ?_) <;> (try simp only [hg]) <;> (try simp only [hgW] at hg) | (with_reducible refine callE_B3 (c40') ?_)) <;> simp -implicitDefEqProofs only [eqOk_true, RJ.cells, JN.av, ad, aa, ag, hn, go_sem, simprocAttr] <;> try (simp (disch := omega) only [wrW]; try simp -implicitDefEqProofs only [RJ.cells, JN.av, ad, aa, ag, hn, go_sem, simprocAttr]))
       | with_reducible refine And.intro (by first | omega | (simp only [hgW]; omega)) ?_
       | (exfalso; omega)
      refine AWP.adoptB 3 2 (0, 998) 0 1 (by rfl) (by rfl) ?_
      refine AWP.adoptB 3 3 (0, 999) 0 1 (by rfl) (by rfl) ?_
      refine AWP.loopX [0, 2, 3, 4] [] (fun x : Nat × RJ × List (List UInt8) × List Nat => St.mk (lk [(0, .ptr 1000000 0), (2, .ptr 2 0), (3, .ptr 3 0), (4, .int .u8 93)])
          (lkB [(1000000, x.2.1.cells nb (4, 0)), (2, [.int .u8 0, .str [], .sl none true 1 [], .sl none true 1 []]), (3, nodeC 2 x.2.2.1 x.2.2.2 (0, 998) (0, 999))]) (hasS []) (hasS []) (hasN []) (lkR []))
        (GrpI val false 93 (deep + 1) Gb A) (fun x => x.1) (300, ⟨Gb, Ga, deep + 1, Gn, 0⟩, [], []) ?_ ⟨rfl, rfl, z3, fun _ => by simp only; omega, by simp, by simp, hA⟩ ?_
      · simp -implicitDefEqProofs only [RJ.cells, nodeC, hn, go_sem, simprocAttr]
        try rfl
      rintro ⟨n, s2, ns, ks⟩ ⟨x1, x2, x3, x5, x6, x6', x7⟩
      simp only at x1 x2 x3 x5 x6 x6' x7
      by_cases he : s2.err = 0
      · have x5' := x5 he
        have hnl := x3.nod
        obtain ⟨n, rfl⟩ : ∃ m, n = m + 1 := ⟨n - 1, by omega⟩
        unfold grpL at x7
        rw [if_neg (by simpa using he)] at x7
        obtain ⟨m1, hm1⟩ : ∃ m1, m1 = s2 := ⟨_, rfl⟩
        obtain ⟨m2, hm2⟩ : ∃ m2, m2 = ns := ⟨_, rfl⟩
        have kM : KeepB s2 m1 := by rw [hm1]; exact ⟨rfl, rfl, x3, Nat.le_refl _⟩
        have hml : m2.length ≤ ns.length + 1 := by rw [hm2]; omega
        simp only [Bool.false_eq_true, if_false] at x7
        rw [← hm1, ← hm2] at x7
        by_cases hme : m1.err ≠ 0
        · rw [if_pos hme] at x7
          subst x7
          subst hR
          have hmd := kM.deep
          subst hm1
          subst hm2
          obtain ⟨m1b, m1a, m1d, m1n, m1e⟩ := m1
          simp only at he hme hmd x1
          subst he
          have ed : (m1d : Int) - 1 = ((m1d - 1 : Nat) : Int) := by omega
          repeat' first
           | with_reducible refine Rl.go (by constructor <;> decide) ?_
           | ((with_reducible first | refine hK _ ?_ | refine hK.1 ?_ | refine hK.2 ?_); clear hK K)
           | ((with_reducible refine condS hK (fun hg => ?_) fun hg => ?_) <;> clear hK K <;> (try simp only [hgW] at hg) <;> try (exfalso; omega))
           | ((first | ((with_reducible first | refine Rk.go k52_VsKGrp (by constructor) ?_); intro K hK) | with_reducible refine Rr.go [] (by constructor) ?_ | (with_reducible refine guardP_split (fun hg => ?_) fun hg => ?_) <;> (try simp only [hg]) <;> (try simp only [hgW] at hg) | (with_reducible refine callE_B3 c51a ?_)) <;> simp -implicitDefEqProofs only [eqOk_true, RJ.cells, JN.av, nodeC, hme, ed, hn, go_sem, simprocAttr] <;> try (simp (disch := omega) only [wrW]; try simp -implicitDefEqProofs only [RJ.cells, JN.av, nodeC, hme, ed, hn, go_sem, simprocAttr]))
           | with_reducible refine And.intro (by first | omega | (simp only [hgW]; omega)) ?_
           | (exfalso; omega)
        rw [if_neg hme] at x7
        have hme : m1.err = 0 := Classical.not_not.1 hme
        have hmd : m1.deep = deep + 1 := kM.deep.trans x1
        have cV := hit (by simp only; omega) m1 nb hmd kM.ok hme
        have kV := keep_val K hm m1 kM.ok
        have km := K.more m1 kM.ok
        generalize val m1 = V at *
        obtain ⟨v, V2⟩ := V
        simp only at cV kV km x7
        have e1' : ks.map i64n ++ [AV.int .i64 (v : Int)] = (ks ++ [v]).map i64n := by rw [List.map_append]; rfl
        have e3 : (ks ++ [v]).isEmpty = false := by simp
        by_cases hve : V2.err ≠ 0
        · rw [if_pos hve] at x7
          subst x7
          subst hR
          have hvd := kV.deep
          obtain ⟨Vb, Va, Vd, Vn, Ve⟩ := V2
          subst hm1
          subst hm2
          obtain ⟨m1b, m1a, m1d, m1n, m1e⟩ := m1
          simp only at he hme hve hmd hvd
          subst hme
          have ed : (Vd : Int) - 1 = ((Vd - 1 : Nat) : Int) := by omega
          repeat' first
           | with_reducible refine Rl.go (by constructor <;> decide) ?_
           | ((with_reducible first | refine hK _ ?_ | refine hK.1 ?_ | refine hK.2 ?_); clear hK K)
           | ((with_reducible refine condS hK (fun hg => ?_) fun hg => ?_) <;> clear hK K <;> (try simp only [hgW] at hg) <;> try (exfalso; omega))
           | ((with_reducible refine callE_B3 cV ?_); simp -implicitDefEqProofs only [eqOk_true, RJ.cells, JN.av, nodeC, hve, ed, e1', e3, hn, go_sem, simprocAttr]; (skip; try (simp (disch := omega) only [wrW]; try simp -implicitDefEqProofs only [RJ.cells, JN.av, nodeC, hve, ed, e1', e3, hn, go_sem, simprocAttr])); fail_if_success (with_reducible refine eqOk_mk ?_))
           | ((first | ((with_reducible first | refine Rk.go k52_VsKGrp (by constructor) ?_); intro K hK) | with_reducible refine Rr.go [] (by constructor) ?_ | (with_reducible refine guardP_split (fun hg => ?_) fun hg => ?_) <;> (try simp only [hg]) <;> (try simp only [hgW] at hg)) <;> simp -implicitDefEqProofs only [RJ.cells, JN.av, nodeC, hve, ed, e1', e3, hn, go_sem, simprocAttr] <;> try (simp (disch := omega) only [wrW]; try simp -implicitDefEqProofs only [RJ.cells, JN.av, nodeC, hve, ed, e1', e3, hn, go_sem, simprocAttr]))
           | with_reducible refine And.intro (by first | omega | (simp only [hgW]; omega)) ?_
           | (exfalso; omega)
        rw [if_neg hve] at x7
        have hve : V2.err = 0 := Classical.not_not.1 hve
        have c40b := f40_ok V2 nb kV.ok
        have kB := blank_keep V2 kV.ok
        have hBe : (blankS V2).err = 0 := hve
        generalize blankS V2 = B2 at *
        have c51c := f51_ok B2 nb kB.ok 93
        have hBlt := isC_lt (s := B2) (c := 93)
        generalize isC B2 93 = q3 at *
        cases q3 with
        | true =>
          rw [if_pos rfl] at x7
          subst x7
          subst hR
          have hvd := kV.deep
          have hbd := kB.deep
          have hba := (hBlt rfl).1
          have hbl := kB.ok.len
          obtain ⟨Vb, Va, Vd, Vn, Ve⟩ := V2
          obtain ⟨Bb, Ba, Bd, Bn, Be⟩ := B2
          subst hm1
          subst hm2
          obtain ⟨m1b, m1a, m1d, m1n, m1e⟩ := m1
          simp only at he hme hve hmd hvd hbd hBe hba hbl
          subst hme hve hBe
          have ed : (Bd : Int) - 1 = ((Bd - 1 : Nat) : Int) := by omega
          have ea : (Ba : Int) + 1 = ((Ba + 1 : Nat) : Int) := by omega
          repeat' first
           | with_reducible refine Rl.go (by constructor <;> decide) ?_
           | ((with_reducible first | refine hK _ ?_ | refine hK.1 ?_ | refine hK.2 ?_); clear hK K)
           | ((with_reducible refine condS hK (fun hg => ?_) fun hg => ?_) <;> clear hK K <;> (try simp only [hgW] at hg) <;> try (exfalso; omega))
           | ((with_reducible refine callE_B3 cV ?_); simp -implicitDefEqProofs only [eqOk_true, RJ.cells, JN.av, nodeC, ed, ea, e1', e3, hn, go_sem, simprocAttr]; (skip; try (simp (disch := omega) only [wrW]; try simp -implicitDefEqProofs only [RJ.cells, JN.av, nodeC, ed, ea, e1', e3, hn, go_sem, simprocAttr])); fail_if_success (with_reducible refine eqOk_mk ?_))
           | ((first | ((with_reducible first | refine Rk.go k52_VsKGrp (by constructor) ?_); intro K hK) | with_reducible refine Rr.go [] (by constructor) ?_ | (with_reducible refine guardP_split (fun hg => ?_) fun hg => ?_) <;> (try simp only [hg]) <;> (try simp only [hgW] at hg) | (with_reducible refine callE_B3 c40b ?_) | (with_reducible refine callE_B3 c51c ?_)) <;> simp -implicitDefEqProofs only [eqOk_true, RJ.cells, JN.av, nodeC, ed, ea, e1', e3, hn, go_sem, simprocAttr] <;> try (simp (disch := omega) only [wrW]; try simp -implicitDefEqProofs only [RJ.cells, JN.av, nodeC, ed, ea, e1', e3, hn, go_sem, simprocAttr]))
           | with_reducible refine And.intro (by first | omega | (simp only [hgW]; omega)) ?_
           | (exfalso; omega)
        | false =>
          rw [if_neg (by decide)] at x7
          have c54 := f54_ok B2 nb kB.ok [44] (by decide)
          have kW := word_keepC B2 [44] kB.ok
          have hWe : (wordC B2 [44]).2.err = 0 := hBe
          generalize wordC B2 [44] = W at *
          obtain ⟨w, W2⟩ := W
          simp only at c54 kW x7 hWe
          have kk := kM.trans (kV.trans (kB.trans kW))
          have kmm := kM.more
          have km' := km hve
          have kbm := (kB.trans kW).more
          cases w with
          | true =>
            rw [if_pos rfl] at x7
            obtain ⟨Vb, Va, Vd, Vn, Ve⟩ := V2
            obtain ⟨Bb, Ba, Bd, Bn, Be⟩ := B2
            obtain ⟨Wb, Wa, Wd, Wn, We⟩ := W2
            subst hm1
            subst hm2
            obtain ⟨m1b, m1a, m1d, m1n, m1e⟩ := m1
            simp only at he hme hve hBe
            subst hme hve hBe
            repeat' first
             | with_reducible refine Rl.go (by constructor <;> decide) ?_
             | ((with_reducible first | refine hK _ ?_ | refine hK.1 ?_ | refine hK.2 ?_); clear hK K)
             | ((with_reducible refine condS hK (fun hg => ?_) fun hg => ?_) <;> clear hK K <;> (try simp only [hgW] at hg) <;> try (exfalso; omega))
             | ((with_reducible refine callE_B3 cV ?_); simp -implicitDefEqProofs only [eqOk_true, RJ.cells, JN.av, nodeC, e1', e3, hn, go_sem, simprocAttr]; (skip; try (simp (disch := omega) only [wrW]; try simp -implicitDefEqProofs only [RJ.cells, JN.av, nodeC, e1', e3, hn, go_sem, simprocAttr])); fail_if_success (with_reducible refine eqOk_mk ?_))
             | ((first | ((with_reducible first | refine Rk.go k52_VsKGrp (by constructor) ?_); intro K hK) | with_reducible refine Rr.go [] (by constructor) ?_ | (with_reducible refine guardP_split (fun hg => ?_) fun hg => ?_) <;> (try simp only [hg]) <;> (try simp only [hgW] at hg) | (with_reducible refine callE_B3 c40b ?_) | (with_reducible refine callE_B3 c51c ?_) | (with_reducible refine callE_B3 c54 ?_)) <;> simp -implicitDefEqProofs only [eqOk_true, RJ.cells, JN.av, nodeC, e1', e3, hn, go_sem, simprocAttr] <;> try (simp (disch := omega) only [wrW]; try simp -implicitDefEqProofs only [RJ.cells, JN.av, nodeC, e1', e3, hn, go_sem, simprocAttr]))
             | with_reducible refine And.intro (by first | omega | (simp only [hgW]; omega)) ?_
             | (exfalso; omega)
            all_goals
              refine ⟨(n, ⟨Wb, Wa, Wd, Wn, We⟩, m2, ks ++ [v]), ?_, ⟨kk.deep.trans x1, kk.b.trans x2, kk.ok, fun _ => by simp only at *; omega, by simp only [List.length_append, List.length_cons, List.length_nil]; omega, by simp only; omega, x7⟩, by simp only; omega⟩
              simp -implicitDefEqProofs only [RJ.cells, nodeC, e3, hn, go_sem, simprocAttr]
              try rfl
          | false =>
            rw [if_neg (by decide)] at x7
            have c41 := f41_ok W2 nb 11
            have kF := keep_fail W2 11 kW.ok
            have w5 := (fail_b W2 11).2.2.2.2 (by decide)
            generalize W2.fail 11 = F at *
            have kkF := kk.trans kF
            obtain ⟨Vb, Va, Vd, Vn, Ve⟩ := V2
            obtain ⟨Bb, Ba, Bd, Bn, Be⟩ := B2
            obtain ⟨Wb, Wa, Wd, Wn, We⟩ := W2
            obtain ⟨Fb, Fa, Fd, Fn, Fe⟩ := F
            subst hm1
            subst hm2
            obtain ⟨m1b, m1a, m1d, m1n, m1e⟩ := m1
            simp only at he hme hve hBe
            subst hme hve hBe
            repeat' first
             | with_reducible refine Rl.go (by constructor <;> decide) ?_
             | ((with_reducible first | refine hK _ ?_ | refine hK.1 ?_ | refine hK.2 ?_); clear hK K)
             | ((with_reducible refine condS hK (fun hg => ?_) fun hg => ?_) <;> clear hK K <;> (try simp only [hgW] at hg) <;> try (exfalso; omega))
             | ((with_reducible refine callE_B3 cV ?_); simp -implicitDefEqProofs only [eqOk_true, RJ.cells, JN.av, nodeC, e1', e3, hn, go_sem, simprocAttr]; (skip; try (simp (disch := omega) only [wrW]; try simp -implicitDefEqProofs only [RJ.cells, JN.av, nodeC, e1', e3, hn, go_sem, simprocAttr])); fail_if_success (with_reducible refine eqOk_mk ?_))
             | ((first | ((with_reducible first | refine Rk.go k52_VsKGrp (by constructor) ?_); intro K hK) | with_reducible refine Rr.go [] (by constructor) ?_ | (with_reducible refine guardP_split (fun hg => ?_) fun hg => ?_) <;> (try simp only [hg]) <;> (try simp only [hgW] at hg) | (with_reducible refine callE_B3 c40b ?_) | (with_reducible refine callE_B3 c51c ?_) | (with_reducible refine callE_B3 c54 ?_) | (with_reducible refine callE_B3 c41 ?_)) <;> simp -implicitDefEqProofs only [eqOk_true, RJ.cells, JN.av, nodeC, e1', e3, hn, go_sem, simprocAttr] <;> try (simp (disch := omega) only [wrW]; try simp -implicitDefEqProofs only [RJ.cells, JN.av, nodeC, e1', e3, hn, go_sem, simprocAttr]))
             | with_reducible refine And.intro (by first | omega | (simp only [hgW]; omega)) ?_
             | (exfalso; omega)
            all_goals
              refine ⟨(n, ⟨Fb, Fa, Fd, Fn, Fe⟩, m2, ks ++ [v]), ?_, ⟨kkF.deep.trans x1, kkF.b.trans x2, kkF.ok, fun h => absurd h w5, by simp only [List.length_append, List.length_cons, List.length_nil]; omega, by simp only; omega, x7⟩, by simp only; omega⟩
              simp -implicitDefEqProofs only [RJ.cells, nodeC, e3, hn, go_sem, simprocAttr]
              try rfl
      · have hA' : A = ((ns, ks), s2) := by
          rw [← x7]
          cases n with
          | zero => rfl
          | succ n => unfold grpL; rw [if_pos he]
        subst hA'
        subst hR
        obtain ⟨s2b, s2a, s2d, s2n, s2e⟩ := s2
        simp only at he x1
        subst x1
        repeat' first
         | with_reducible refine Rl.go (by constructor <;> decide) ?_
         | ((with_reducible first | refine hK _ ?_ | refine hK.1 ?_ | refine hK.2 ?_); clear hK K)
         | ((with_reducible refine condS hK (fun hg => ?_) fun hg => ?_) <;> clear hK K <;> (try simp only [hgW] at hg) <;> try (exfalso; omega))
         | ((first | ((with_reducible first | refine Rk.go k52_VsKGrp (by constructor) ?_); intro K hK) | with_reducible refine Rr.go [] (by constructor) ?_ | (with_reducible refine guardP_split (fun hg => ?_) fun hg => ?_) <;> (try simp only [hg]) <;> (try simp only [hgW] at hg)) <;> simp -implicitDefEqProofs only [RJ.cells, JN.av, nodeC, he, e1, hn, go_sem, simprocAttr] <;> try (simp (disch := omega) only [wrW]; try simp -implicitDefEqProofs only [RJ.cells, JN.av, nodeC, he, e1, hn, go_sem, simprocAttr]))
         | with_reducible refine And.intro (by first | omega | (simp only [hgW]; omega)) ?_
         | (exfalso; omega)
end Go.Proofs.YtfemncfhiihckaaDoor
