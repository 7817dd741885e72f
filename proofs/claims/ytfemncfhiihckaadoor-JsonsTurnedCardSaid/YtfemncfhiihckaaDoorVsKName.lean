/- What a member's name comes to. -/
import Derived.Test.YtfemncfhiihckaaDoorVsKText
import Derived.Test.YtfemncfhiihckaaDoorVsKNum
import Derived.Test.YtfemncfhiihckaaDoorVsJObj
open Go Go.VS
namespace Go.Proofs.YtfemncfhiihckaaDoor
set_option linter.unusedVariables false
set_option linter.unusedSimpArgs false
set_option maxRecDepth 20000
set_option maxHeartbeats 4000000
/-- A node that is being made, in its box. -/
def nodeC (k : Nat) (ns : List (List UInt8)) (ks : List Nat) (g1 g2 : Stamp) : List AV := [.int .u8 (k : Int), .str [], .sl (some (g1, 0)) ns.isEmpty 1 (ns.map .str), .sl (some (g2, 0)) ks.isEmpty 1 (ks.map i64n)]
def nameS (s : RJ) (ns : List (List UInt8)) : RJ × List (List UInt8) :=
  if isC (blankS s) 34 = false then ((blankS s).fail 11, ns)
  else if (textC (blankS s)).1.2 = false then ((textC (blankS s)).2.fail 11, ns)
  else
    let s1 := if (textC (blankS s)).1.1 ∈ ns then (textC (blankS s)).2.fail 12 else (textC (blankS s)).2
    let w := wordC (blankS s1) [58]
    (if w.1 = true then w.2 else w.2.fail 11, ns ++ [(textC (blankS s)).1.1])
theorem blank_keep (s : RJ) (h : OkJ s) : KeepB s (blankS s) := keep_at s _ (nextAt_le s.b s.at_ h.at_).2 h
theorem txR_le (b : List UInt8) : ∀ (n i : Nat) (out : List UInt8), i ≤ b.length → (txR b n i out).2.2 ≤ b.length
  | 0, i, out, h => h
  | n + 1, i, out, h => by
    unfold txR
    split
    · exact h
    rename_i h1
    split
    · exact h
    split
    · simp only; omega
    split
    · have hne : b.drop i ≠ [] := fun h => by have := congrArg List.length h; rw [List.length_drop] at this; simp only [List.length_nil] at this; omega
      have hd := decL_pos _ hne
      rw [List.length_drop] at hd
      split
      · exact h
      · exact txR_le b n _ _ (by omega)
    split
    · simp only; omega
    split
    · exact txR_le b n _ _ (by omega)
    split
    · simp only; omega
    split
    · simp only; omega
    rename_i x hx
    have := (unitP_lt hx).2
    split
    · simp only; omega
    split
    · exact txR_le b n _ _ (by omega)
    split
    · simp only; omega
    split
    · rename_i hw _ _
      have : i + 8 ≤ b.length := by
        unfold wordP at hw
        split at hw
        · rename_i e
          have := congrArg List.length e
          simp only [List.length_take, List.length_drop, List.length_cons, List.length_nil] at this
          omega
        · simp at hw
      exact this
    · rename_i y hy
      have := (unitP_lt hy).2
      split
      · simp only; omega
      · exact txR_le b n _ _ (by omega)
theorem text_keepC (s : RJ) (h : OkJ s) (hat : s.at_ < s.b.length) : KeepB s (textC s).2 := keep_at s _ (txR_le s.b _ _ _ (by omega)) h
theorem wordP_le (b : List UInt8) (i : Nat) (w : List UInt8) (h : i ≤ b.length) : (wordP b i w).2 ≤ b.length := by
  unfold wordP
  split
  · rename_i e
    have := congrArg List.length e
    rw [List.length_take, List.length_drop] at this
    simp only
    omega
  · exact h
theorem word_keepC (s : RJ) (w : List UInt8) (h : OkJ s) : KeepB s (wordC s w).2 := keep_at s _ (wordP_le s.b s.at_ w h.at_) h
theorem isC_lt {s : RJ} {c : UInt8} (h : isC s c = true) : s.at_ < s.b.length ∧ s.b.getD s.at_ default = c := by
  unfold isC at h
  rw [Bool.and_eq_true] at h
  exact ⟨of_decide_eq_true h.1, of_decide_eq_true h.2⟩
theorem name_keep (s : RJ) (ns : List (List UInt8)) (h : OkJ s) : KeepB s (nameS s ns).1 ∧ (nameS s ns).2.length ≤ ns.length + 1 := by
  have k0 := blank_keep s h
  unfold nameS
  split
  · exact ⟨k0.trans (keep_fail _ 11 k0.ok), by simp⟩
  rename_i h1
  have h1 : isC (blankS s) 34 = true := by simpa using h1
  have k1 := k0.trans (text_keepC _ k0.ok (isC_lt h1).1)
  split
  · exact ⟨k1.trans (keep_fail _ 11 k1.ok), by simp⟩
  simp only
  have k2 : KeepB s (if (textC (blankS s)).1.1 ∈ ns then (textC (blankS s)).2.fail 12 else (textC (blankS s)).2) := by
    split
    · exact k1.trans (keep_fail _ 12 k1.ok)
    · exact k1
  generalize (if (textC (blankS s)).1.1 ∈ ns then (textC (blankS s)).2.fail 12 else (textC (blankS s)).2) = S1 at *
  have k3 := k2.trans (blank_keep _ k2.ok)
  have k4 := k3.trans (word_keepC _ [58] k3.ok)
  refine ⟨?_, by simp⟩
  split
  · exact k4
  · exact k4.trans (keep_fail _ 11 k4.ok)
theorem fail_fail (s : RJ) (e : Nat) (he : e ≠ 0) : (s.fail e).fail e = s.fail e := by
  unfold RJ.fail
  by_cases h : s.err = 0
  · rw [if_pos h]
    simp only
    rw [if_neg he]
  · rw [if_neg h, if_neg h]
theorem take_snoc (l : List (List UInt8)) (i : Nat) (h : i < l.length) : l.take (i + 1) = l.take i ++ [l.getD i default] := by
  rw [List.take_succ_eq_append_getElem h, List.getD_eq_getElem?_getD, List.getElem?_eq_getElem h]; rfl
def k67_VsKName : List Nat := [0,1,4,5,6,11,20,29,40,57]
attribute [go_sem] k67_VsKName
theorem f67_ok (s : RJ) (nb : Bool) (h : OkJ s) (k : Nat) (ns : List (List UInt8)) (ks : List Nat) (hns : ns.length ≤ 1000) :
    CallsB Tryd.prog 67 [.ptr 1000000 0, .ptr 1000001 0] [s.cells nb (4, 0), nodeC k ns ks (4, 1) (4, 2)] (.tup []) [(nameS s ns).1.cells nb (3, 0), nodeC k (nameS s ns).2 ks (3, 1) (3, 2)] := by
  have c40 := f40_ok s nb h
  have k0 := blank_keep s h
  obtain ⟨R, hR⟩ : ∃ R, nameS s ns = R := ⟨_, rfl⟩
  rw [hR]
  unfold nameS at hR
  generalize blankS s = S0 at *
  have c51 := f51_ok S0 nb k0.ok 34
  have hlt := isC_lt (s := S0) (c := 34)
  generalize isC S0 34 = q at *
  cases q with
  | false =>
    rw [if_pos rfl] at hR
    have c41 := f41_ok S0 nb 11
    subst hR
    generalize S0.fail 11 = F at *
    obtain ⟨b, at_, deep, nodes, err⟩ := s
    obtain ⟨b0, at0, deep0, nodes0, err0⟩ := S0
    obtain ⟨Fb, Fa, Fd, Fn, Fe⟩ := F
    refine CallsB.intro Tryd.func67 rfl (by show 2 ≤ 60; decide) ?_
    rintro X hX
    have hn : X.n = 60 := hX
    unfold Tryd.f67
    dsimp only
    rw [entryB22]
    repeat' first
     | with_reducible refine Rl.go (by constructor <;> decide) ?_
     | ((with_reducible first | refine hK _ ?_ | refine hK.1 ?_ | refine hK.2 ?_); clear hK K)
     | ((with_reducible refine condS hK (fun hg => ?_) fun hg => ?_) <;> clear hK K <;> (try simp only [hgW] at hg) <;> try (exfalso; omega))
     | ((first | ((with_reducible first | refine Rk.go k67_VsKName (by constructor) ?_); intro K hK) | with_reducible refine Rr.go [] (by constructor) ?_ | (with_reducible refine guardP_split (fun hg => ?_) fun hg => ?_) <;> (try simp only [hg]) <;> (try simp only [hgW] at hg) | (with_reducible refine callE_B3 c40 ?_) | (with_reducible refine callE_B3 c51 ?_) | (with_reducible refine callE_B3 c41 ?_)) <;> simp -implicitDefEqProofs only [eqOk_true, RJ.cells, nodeC, hn, go_sem, simprocAttr] <;> try (simp (disch := omega) only [wrW]; try simp -implicitDefEqProofs only [RJ.cells, nodeC, hn, go_sem, simprocAttr]))
     | with_reducible refine And.intro (by first | omega | (simp only [hgW]; omega)) ?_
     | (exfalso; omega)
  | true =>
    rw [if_neg (by decide)] at hR
    have c53 := f53_ok S0 nb k0.ok (hlt rfl).1
    have k1 := text_keepC S0 k0.ok (hlt rfl).1
    generalize textC S0 = TX at *
    obtain ⟨⟨txt, ok⟩, T⟩ := TX
    simp only at c53 k1 hR
    cases ok with
    | false =>
      rw [if_pos rfl] at hR
      have c41 := f41_ok T nb 11
      subst hR
      generalize T.fail 11 = F at *
      obtain ⟨b, at_, deep, nodes, err⟩ := s
      obtain ⟨b0, at0, deep0, nodes0, err0⟩ := S0
      obtain ⟨Tb, Ta, Td, Tn, Te⟩ := T
      obtain ⟨Fb, Fa, Fd, Fn, Fe⟩ := F
      refine CallsB.intro Tryd.func67 rfl (by show 2 ≤ 60; decide) ?_
      rintro X hX
      have hn : X.n = 60 := hX
      unfold Tryd.f67
      dsimp only
      rw [entryB22]
      repeat' first
       | with_reducible refine Rl.go (by constructor <;> decide) ?_
       | ((with_reducible first | refine hK _ ?_ | refine hK.1 ?_ | refine hK.2 ?_); clear hK K)
       | ((with_reducible refine condS hK (fun hg => ?_) fun hg => ?_) <;> clear hK K <;> (try simp only [hgW] at hg) <;> try (exfalso; omega))
       | ((first | ((with_reducible first | refine Rk.go k67_VsKName (by constructor) ?_); intro K hK) | with_reducible refine Rr.go [] (by constructor) ?_ | (with_reducible refine guardP_split (fun hg => ?_) fun hg => ?_) <;> (try simp only [hg]) <;> (try simp only [hgW] at hg) | (with_reducible refine callE_B3 c40 ?_) | (with_reducible refine callE_B3 c51 ?_) | (with_reducible refine callE_B3 c53 ?_) | (with_reducible refine callE_B3 c41 ?_)) <;> simp -implicitDefEqProofs only [eqOk_true, RJ.cells, nodeC, hn, go_sem, simprocAttr] <;> try (simp (disch := omega) only [wrW]; try simp -implicitDefEqProofs only [RJ.cells, nodeC, hn, go_sem, simprocAttr]))
       | with_reducible refine And.intro (by first | omega | (simp only [hgW]; omega)) ?_
       | (exfalso; omega)
    | true =>
      rw [if_neg (by decide)] at hR
      obtain ⟨DD, hDD⟩ : ∃ DD : Nat → RJ, DD = fun i => if txt ∈ ns.take i then T.fail 12 else T := ⟨_, rfl⟩
      have d0 : DD 0 = T := by rw [hDD]; simp
      have dl : DD ns.length = if txt ∈ ns then T.fail 12 else T := by rw [hDD]; simp only [List.take_length]
      rw [← dl] at hR
      have kD : ∀ i, KeepB S0 (DD i) := fun i => by
        rw [hDD]
        simp only
        split
        · exact k1.trans (keep_fail _ 12 k1.ok)
        · exact k1
      have ds : ∀ i, i < ns.length → DD (i + 1) = if ns.getD i default = txt then (DD i).fail 12 else DD i := fun i hi => by
        rw [hDD]
        simp only
        rw [take_snoc ns i hi]
        by_cases h1 : txt ∈ ns.take i
        · rw [if_pos (List.mem_append_left _ h1), if_pos h1, fail_fail _ _ (by decide)]
          split <;> rfl
        · by_cases h2 : ns.getD i default = txt
          · rw [if_pos (List.mem_append_right _ (by rw [h2]; exact List.mem_singleton.2 rfl)), if_neg h1, if_pos h2]
          · rw [if_neg (by simp only [List.mem_append, List.mem_singleton, not_or]; exact ⟨h1, fun e => h2 e.symm⟩), if_neg h1, if_neg h2]
      obtain ⟨b, at_, deep, nodes, err⟩ := s
      obtain ⟨b0, at0, deep0, nodes0, err0⟩ := S0
      have hT := d0
      obtain ⟨Tb, Ta, Td, Tn, Te⟩ := T
      refine CallsB.intro Tryd.func67 rfl (by show 2 ≤ 60; decide) ?_
      rintro X hX
      have hn : X.n = 60 := hX
      unfold Tryd.f67
      dsimp only
      rw [entryB22]
      repeat' first
       | with_reducible refine Rl.go (by constructor <;> decide) ?_
       | ((with_reducible first | refine hK _ ?_ | refine hK.1 ?_ | refine hK.2 ?_); clear hK K)
       | ((with_reducible refine condS hK (fun hg => ?_) fun hg => ?_) <;> clear hK K <;> (try simp only [hgW] at hg) <;> try (exfalso; omega))
       | ((first | ((with_reducible first | refine Rk.go k67_VsKName (by constructor) ?_); intro K hK) | with_reducible refine Rr.go [] (by constructor) ?_ | (with_reducible refine guardP_split (fun hg => ?_) fun hg => ?_) <;> (try simp only [hg]) <;> (try simp only [hgW] at hg) | (with_reducible refine callE_B3 c40 ?_) | (with_reducible refine callE_B3 c51 ?_) | (with_reducible refine callE_B3 c53 ?_)) <;> simp -implicitDefEqProofs only [eqOk_true, RJ.cells, nodeC, hn, go_sem, simprocAttr] <;> try (simp (disch := omega) only [wrW]; try simp -implicitDefEqProofs only [RJ.cells, nodeC, hn, go_sem, simprocAttr]))
       | with_reducible refine And.intro (by first | omega | (simp only [hgW]; omega)) ?_
       | (exfalso; omega)
      refine AWP.loopX [0, 1, 4, 6] [] (fun i : Nat => St.mk (lk [(0, .ptr 1000000 0), (1, .ptr 1000001 0), (4, .str txt), (6, .int .i64 (i : Int))]) (lkB [(1000000, (DD i).cells nb (4, 0)), (1000001, nodeC k ns ks (4, 1) (4, 2))]) (hasS []) (hasS []) (hasN []) (lkR []))
        (fun i => i ≤ ns.length) (fun i => ns.length - i) 0 ?_ (Nat.zero_le _) ?_
      · rw [d0]
        simp -implicitDefEqProofs only [RJ.cells, nodeC, hn, go_sem, simprocAttr]
        try rfl
      intro i hi
      try dsimp only
      have ei : (i : Int) + 1 = ((i + 1 : Nat) : Int) := by omega
      by_cases hil : i = ns.length
      · subst hil
        have k2 := kD ns.length
        generalize DD ns.length = S1 at *
        have c40b := f40_ok S1 nb k2.ok
        have k3 := k2.trans (blank_keep _ k2.ok)
        generalize blankS S1 = S2 at *
        have c54 := f54_ok S2 nb k3.ok [58] (by decide)
        have c41 := f41_ok (wordC S2 [58]).2 nb 11
        generalize wordC S2 [58] = W at *
        obtain ⟨w1, W2⟩ := W
        simp only at c54 c41 hR
        have e2 : ns.map AV.str ++ [AV.str txt] = (ns ++ [txt]).map AV.str := by rw [List.map_append]; rfl
        have e4 : (ns ++ [txt]).isEmpty = false := by simp
        obtain ⟨b1, at1, deep1, nodes1, err1⟩ := S1
        obtain ⟨b2, at2, deep2, nodes2, err2⟩ := S2
        cases w1 with
        | true =>
          rw [if_pos rfl] at hR
          subst hR
          obtain ⟨Wb, Wa, Wd, Wn, We⟩ := W2
          repeat' first
           | with_reducible refine Rl.go (by constructor <;> decide) ?_
           | ((with_reducible first | refine hK _ ?_ | refine hK.1 ?_ | refine hK.2 ?_); clear hK K)
           | ((with_reducible refine condS hK (fun hg => ?_) fun hg => ?_) <;> clear hK K <;> (try simp only [hgW] at hg) <;> try (exfalso; omega))
           | ((first | ((with_reducible first | refine Rk.go k67_VsKName (by constructor) ?_); intro K hK) | with_reducible refine Rr.go [] (by constructor) ?_ | (with_reducible refine guardP_split (fun hg => ?_) fun hg => ?_) <;> (try simp only [hg]) <;> (try simp only [hgW] at hg) | (with_reducible refine callE_B3 c40b ?_) | (with_reducible refine callE_B3 c54 ?_)) <;> simp -implicitDefEqProofs only [eqOk_true, RJ.cells, nodeC, e2, e4, hn, go_sem, simprocAttr] <;> try (simp (disch := omega) only [wrW]; try simp -implicitDefEqProofs only [RJ.cells, nodeC, e2, e4, hn, go_sem, simprocAttr]))
           | with_reducible refine And.intro (by first | omega | (simp only [hgW]; omega)) ?_
           | (exfalso; omega)
        | false =>
          rw [if_neg (by decide)] at hR
          subst hR
          generalize W2.fail 11 = F at *
          obtain ⟨Wb, Wa, Wd, Wn, We⟩ := W2
          obtain ⟨Fb, Fa, Fd, Fn, Fe⟩ := F
          repeat' first
           | with_reducible refine Rl.go (by constructor <;> decide) ?_
           | ((with_reducible first | refine hK _ ?_ | refine hK.1 ?_ | refine hK.2 ?_); clear hK K)
           | ((with_reducible refine condS hK (fun hg => ?_) fun hg => ?_) <;> clear hK K <;> (try simp only [hgW] at hg) <;> try (exfalso; omega))
           | ((first | ((with_reducible first | refine Rk.go k67_VsKName (by constructor) ?_); intro K hK) | with_reducible refine Rr.go [] (by constructor) ?_ | (with_reducible refine guardP_split (fun hg => ?_) fun hg => ?_) <;> (try simp only [hg]) <;> (try simp only [hgW] at hg) | (with_reducible refine callE_B3 c40b ?_) | (with_reducible refine callE_B3 c54 ?_) | (with_reducible refine callE_B3 c41 ?_)) <;> simp -implicitDefEqProofs only [eqOk_true, RJ.cells, nodeC, e2, e4, hn, go_sem, simprocAttr] <;> try (simp (disch := omega) only [wrW]; try simp -implicitDefEqProofs only [RJ.cells, nodeC, e2, e4, hn, go_sem, simprocAttr]))
           | with_reducible refine And.intro (by first | omega | (simp only [hgW]; omega)) ?_
           | (exfalso; omega)
      · have d1 := ds i (by omega)
        obtain ⟨x, hx⟩ : ∃ x, ns.getD i default = x := ⟨_, rfl⟩
        rw [hx] at d1
        have hxs : ns[i]? = some x := by
          rw [← hx, List.getD_eq_getElem?_getD, List.getElem?_eq_getElem (show i < ns.length by omega)]; rfl
        obtain ⟨B, hB⟩ : ∃ B, DD i = B := ⟨_, rfl⟩
        try dsimp only
        rw [hB] at d1 ⊢
        have c41 := f41_ok B nb 12
        by_cases hxt : x = txt
        · rw [if_pos hxt] at d1
          obtain ⟨F, hF⟩ : ∃ F, B.fail 12 = F := ⟨_, rfl⟩
          rw [hF] at c41 d1
          subst hxt
          obtain ⟨Bb, Ba, Bd, Bn, Be⟩ := B
          obtain ⟨Fb, Fa, Fd, Fn, Fe⟩ := F
          repeat' first
           | with_reducible refine Rl.go (by constructor <;> decide) ?_
           | ((with_reducible first | refine hK _ ?_ | refine hK.1 ?_ | refine hK.2 ?_); clear hK K)
           | ((with_reducible refine condS hK (fun hg => ?_) fun hg => ?_) <;> clear hK K <;> (try simp only [hgW] at hg) <;> try (exfalso; omega))
           | ((first | ((with_reducible first | refine Rk.go k67_VsKName (by constructor) ?_); intro K hK) | with_reducible refine Rr.go [] (by constructor) ?_ | (with_reducible refine guardP_split (fun hg => ?_) fun hg => ?_) <;> (try simp only [hg]) <;> (try simp only [hgW] at hg) | (with_reducible refine callE_B3 c41 ?_)) <;> simp -implicitDefEqProofs only [eqOk_true, RJ.cells, nodeC, hx, hn, go_sem, simprocAttr] <;> try (simp (disch := omega) only [wrW]; try simp -implicitDefEqProofs only [RJ.cells, nodeC, hx, hn, go_sem, simprocAttr]))
           | with_reducible refine And.intro (by first | omega | (simp only [hgW]; omega)) ?_
           | (exfalso; omega)
          refine ⟨i + 1, ?_, by omega, by omega⟩
          rw [ei, d1]
          simp -implicitDefEqProofs only [RJ.cells, nodeC, hn, go_sem, simprocAttr]
          try rfl
        · rw [if_neg hxt] at d1
          have hn2 : (x == txt) = false := by simpa using hxt
          obtain ⟨Bb, Ba, Bd, Bn, Be⟩ := B
          repeat' first
           | with_reducible refine Rl.go (by constructor <;> decide) ?_
           | ((with_reducible first | refine hK _ ?_ | refine hK.1 ?_ | refine hK.2 ?_); clear hK K)
           | ((with_reducible refine condS hK (fun hg => ?_) fun hg => ?_) <;> clear hK K <;> (try simp only [hgW] at hg) <;> try (exfalso; omega))
           | ((first | ((with_reducible first | refine Rk.go k67_VsKName (by constructor) ?_); intro K hK) | with_reducible refine Rr.go [] (by constructor) ?_ | (with_reducible refine guardP_split (fun hg => ?_) fun hg => ?_) <;> (try simp only [hg]) <;> (try simp only [hgW] at hg)) <;> simp -implicitDefEqProofs only [RJ.cells, nodeC, hx, hn2, hn, go_sem, simprocAttr] <;> try (simp (disch := omega) only [wrW]; try simp -implicitDefEqProofs only [RJ.cells, nodeC, hx, hn2, hn, go_sem, simprocAttr]))
           | with_reducible refine And.intro (by first | omega | (simp only [hgW]; omega)) ?_
           | (exfalso; omega)
          refine ⟨i + 1, ?_, by omega, by omega⟩
          rw [ei, d1]
          simp -implicitDefEqProofs only [RJ.cells, nodeC, hn, go_sem, simprocAttr]
          try rfl
end Go.Proofs.YtfemncfhiihckaaDoor
