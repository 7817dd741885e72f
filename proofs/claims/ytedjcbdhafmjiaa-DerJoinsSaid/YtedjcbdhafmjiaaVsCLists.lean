/- What latchkeyref10.List, SameLists and der.Seq answer. -/
import Derived.Test.YtedjcbdhafmjiaaVsCList
import Derived.Test.YtedjcbdhafmjiaaVsCRef
import Derived.Test.YtedjcbdhafmjiaaVsCMore
open Go Go.VS
namespace Go.Proofs.Ytedjcbdhafmjiaa
set_option linter.unusedVariables false
set_option linter.unusedSimpArgs false
set_option maxRecDepth 20000
set_option maxHeartbeats 4000000
def k43_VsCLists : List Nat := [0,2,3,4,5,6,7,10,18]
attribute [go_sem] k43_VsCLists
theorem f43_ok (nb : Bool) (bs : List UInt8) (hnb : nb = true → bs = []) (hB : bs.length ≤ 10000) : CallsP Try.prog 43 [.sl none nb 1 (bs.map u8)] (listA bs) := by
  refine CallsP.introF Try.func43 rfl (by show 1 ≤ 26; decide) ?_
  rintro X hX
  have hn : X.n = 26 := hX
  unfold Try.f43
  dsimp only
  rw [entryB_0, entry1]
  repeat' first
    | with_reducible (first | refine AWP.seqA ?_ | refine AWP.seqB ?_ | refine AWP.block ?_ | refine AWP.skipN ?_ | refine AWP.skip ?_ | refine AWP.exit ?_ | refine AWP.ret ?_ | refine LoopN.succ ?_ | refine thenS_n ?_ | refine thenS_x ?_ | refine thenS_r ?_ | refine blockS_n ?_ | refine blockS_r ?_ | refine blockS_x ?_ | refine blockS_y (by decide) ?_)
    | ((with_reducible refine hK _ ?_); clear hK K) | ((with_reducible refine hKt ?_); clear hKt hKf Kt Kf) | ((with_reducible refine hKf ?_); clear hKt hKf Kt Kf) | ((with_reducible refine condP_split (fun hg => hKt ?_) (fun hg => hKf ?_)) <;> clear hKt hKf Kt Kf <;> (try simp only [hgW] at hg) <;> try (exfalso; omega))
    | ((first | (with_reducible refine guardP_split (fun hg => ?_) (fun hg => ?_)) <;> simp -implicitDefEqProofs only [hg, hn, go_sem, simprocAttr] <;> (try simp only [hgW] at hg) | ((first | with_reducible (first | refine AWP.seqRB k43_VsCLists fun K hK => ?_ | refine AWP.lastRB k43_VsCLists fun K hK => ?_ | refine AWP.seqC fun Kt Kf hKt hKf => ?_ | refine AWP.condK fun Kt Kf hKt hKf => ?_ | refine retSF_ret [] ?_ | refine retSF_end [] ?_)); simp -implicitDefEqProofs only [hn, go_sem, simprocAttr])) <;> try simp (disch := omega) only [wrW])
    | with_reducible refine And.intro (by first | omega | (simp only [hgW]; omega)) ?_
    | (exfalso; omega)
  refine AWP.adopt 4 (0, 999) 0 2 (by rfl) ?_
  refine AWP.loopX [0, 4] [5] (fun x : Bool × List UInt8 × List Zt => St.mk (lk [(0, .sl none x.1 1 (x.2.1.map u8)), (4, .sl (some ((0, 999), 0)) (decide (x.2.2 = [])) 2 (x.2.2.map fun z => pcAV z.tag z.body))]) (lkB []) (hasS []) (hasS []) (hasN []) (lkR []))
    (fun x => (x.1 = true → x.2.1 = []) ∧ x.2.1.length + x.2.2.length ≤ 10000 ∧ zsS bs = x.2.2 ++ zsS x.2.1 ∧ errZ x.2.2 = 0) (fun x => x.2.1.length) (nb, bs, []) ?_ ⟨hnb, by simpa using hB, rfl, rfl⟩ ?_
  · simp -implicitDefEqProofs only [hn, go_sem, simprocAttr]
    try rfl
  · rintro ⟨nb, cs, zs1⟩ ⟨h1, h2, h3, h4⟩
    simp only at h1 h2 h3 h4 ⊢
    by_cases hc : cs = []
    · subst hc
      repeat' first
        | with_reducible (first | refine AWP.seqA ?_ | refine AWP.seqB ?_ | refine AWP.block ?_ | refine AWP.skipN ?_ | refine AWP.skip ?_ | refine AWP.exit ?_ | refine AWP.ret ?_ | refine LoopN.succ ?_ | refine thenS_n ?_ | refine thenS_x ?_ | refine thenS_r ?_ | refine blockS_n ?_ | refine blockS_r ?_ | refine blockS_x ?_ | refine blockS_y (by decide) ?_)
        | ((with_reducible refine hK _ ?_); clear hK K) | ((with_reducible refine hKt ?_); clear hKt hKf Kt Kf) | ((with_reducible refine hKf ?_); clear hKt hKf Kt Kf) | ((with_reducible refine condP_split (fun hg => hKt ?_) (fun hg => hKf ?_)) <;> clear hKt hKf Kt Kf <;> (try simp only [hgW] at hg) <;> try (exfalso; omega))
        | ((first | (with_reducible refine guardP_split (fun hg => ?_) (fun hg => ?_)) <;> simp -implicitDefEqProofs only [hg, hn, go_sem, simprocAttr] <;> (try simp only [hgW] at hg) | ((first | with_reducible (first | refine AWP.seqRB k43_VsCLists fun K hK => ?_ | refine AWP.lastRB k43_VsCLists fun K hK => ?_ | refine AWP.seqC fun Kt Kf hKt hKf => ?_ | refine AWP.condK fun Kt Kf hKt hKf => ?_ | refine retSF_ret [] ?_ | refine retSF_end [] ?_)); simp -implicitDefEqProofs only [hn, go_sem, simprocAttr])) <;> try simp (disch := omega) only [wrW])
        | with_reducible refine And.intro (by first | omega | (simp only [hgW]; omega)) ?_
        | (exfalso; omega)
      have hz0 : errZ (zsS bs) = 0 := by rw [h3, zsS_nil, List.append_nil]; exact h4
      unfold listA
      rw [if_pos hz0, h3]
      cases zs1 <;> simp [zsS_nil]
    · have hz := zsS_cons hc
      have c27 := f27_ok nb cs h1
      unfold refA at c27
      cases hs : readSpec cs with
      | inl e =>
        rw [hs] at c27 hz
        simp only at c27 hz
        have he := spec_err hs
        have hcl : 0 < cs.length := List.length_pos_iff.2 hc
        repeat' first
          | with_reducible (first | refine AWP.seqA ?_ | refine AWP.seqB ?_ | refine AWP.block ?_ | refine AWP.skipN ?_ | refine AWP.skip ?_ | refine AWP.exit ?_ | refine AWP.ret ?_ | refine LoopN.succ ?_ | refine thenS_n ?_ | refine thenS_x ?_ | refine thenS_r ?_ | refine blockS_n ?_ | refine blockS_r ?_ | refine blockS_x ?_ | refine blockS_y (by decide) ?_)
          | ((with_reducible refine hK _ ?_); clear hK K) | ((with_reducible refine hKt ?_); clear hKt hKf Kt Kf) | ((with_reducible refine hKf ?_); clear hKt hKf Kt Kf) | ((with_reducible refine condP_split (fun hg => hKt ?_) (fun hg => hKf ?_)) <;> clear hKt hKf Kt Kf <;> (try simp only [hgW] at hg) <;> try (exfalso; omega))
          | ((first | (with_reducible refine guardP_split (fun hg => ?_) (fun hg => ?_)) <;> simp -implicitDefEqProofs only [hg, hn, go_sem, simprocAttr] <;> (try simp only [hgW] at hg) | ((first | with_reducible (first | refine AWP.seqRB k43_VsCLists fun K hK => ?_ | refine AWP.lastRB k43_VsCLists fun K hK => ?_ | refine AWP.seqC fun Kt Kf hKt hKf => ?_ | refine AWP.condK fun Kt Kf hKt hKf => ?_ | refine retSF_ret [] ?_ | refine retSF_end [] ?_) | refine callE_P (c27) ?_ | refine callP_intro2 (c27) ?_ | refine callE_X (c27) ?_); simp -implicitDefEqProofs only [hn, go_sem, simprocAttr])) <;> try simp (disch := omega) only [wrW])
          | with_reducible refine And.intro (by first | omega | (simp only [hgW]; omega)) ?_
          | (exfalso; omega)
        have hz0 : errZ (zsS bs) = e := by rw [h3, hz, errZ_app, h4]; simp
        unfold listA
        rw [hz0, if_neg (by omega)]
      | inr p =>
        obtain ⟨h, k⟩ := p
        rw [hs] at c27 hz
        simp only at c27 hz
        have hp := spec_pos hs
        have hcl : 0 < cs.length := List.length_pos_iff.2 hc
        repeat' first
          | with_reducible (first | refine AWP.seqA ?_ | refine AWP.seqB ?_ | refine AWP.block ?_ | refine AWP.skipN ?_ | refine AWP.skip ?_ | refine AWP.exit ?_ | refine AWP.ret ?_ | refine LoopN.succ ?_ | refine thenS_n ?_ | refine thenS_x ?_ | refine thenS_r ?_ | refine blockS_n ?_ | refine blockS_r ?_ | refine blockS_x ?_ | refine blockS_y (by decide) ?_)
          | ((with_reducible refine hK _ ?_); clear hK K) | ((with_reducible refine hKt ?_); clear hKt hKf Kt Kf) | ((with_reducible refine hKf ?_); clear hKt hKf Kt Kf) | ((with_reducible refine condP_split (fun hg => hKt ?_) (fun hg => hKf ?_)) <;> clear hKt hKf Kt Kf <;> (try simp only [hgW] at hg) <;> try (exfalso; omega))
          | ((first | (with_reducible refine guardP_split (fun hg => ?_) (fun hg => ?_)) <;> simp -implicitDefEqProofs only [hg, hn, go_sem, simprocAttr] <;> (try simp only [hgW] at hg) | ((first | with_reducible (first | refine AWP.seqRB k43_VsCLists fun K hK => ?_ | refine AWP.lastRB k43_VsCLists fun K hK => ?_ | refine AWP.seqC fun Kt Kf hKt hKf => ?_ | refine AWP.condK fun Kt Kf hKt hKf => ?_ | refine retSF_ret [] ?_ | refine retSF_end [] ?_) | refine callE_P (c27) ?_ | refine callP_intro2 (c27) ?_ | refine callE_X (c27) ?_); simp -implicitDefEqProofs only [hn, go_sem, simprocAttr])) <;> try simp (disch := omega) only [wrW])
          | with_reducible refine And.intro (by first | omega | (simp only [hgW]; omega)) ?_
          | (exfalso; omega)
        refine ⟨(false, cs.drop (h + k), zs1 ++ [⟨cs.getD 0 default, (cs.drop h).take k, 0⟩]), ?_, ⟨by simp, by simp; omega, by rw [h3, hz]; simp, by rw [errZ_app, h4]; simp⟩, by simp; omega⟩
        simp -implicitDefEqProofs only [hn, go_sem, simprocAttr]
        simp [pcAV]
theorem getD_snd (xs : List (Bool × UInt8 × List UInt8)) (i : Nat) : (xs.map (·.2)).getD i default = (xs.getD i default).2 := by
  simp only [List.getD_eq_getElem?_getD, List.getElem?_map]
  cases xs[i]? <;> rfl
theorem take_snd {xs : List (Bool × UInt8 × List UInt8)} {i : Nat} (hi : i < xs.length) : (xs.map (·.2)).take (i + 1) = (xs.map (·.2)).take i ++ [(xs.getD i default).2] := by
  rw [List.take_add_one, ← getD_snd]
  simp [hi]
/-- A piece as it is handed about. -/
def pAV (p : Bool × UInt8 × List UInt8) : AV := .agg [.int .u8 (p.2.1.toNat : Int), .sl none p.1 1 (p.2.2.map u8)]
def sameL (xs ys : List (Bool × UInt8 × List UInt8)) : Bool := xs.map (·.2) == ys.map (·.2)
def k44_VsCLists : List Nat := [0,1,4,5,10,14,26]
def a44_6_VsCLists : List Nat := [0,0,3,7,0,0,48,112,255,511]
def o44_6_VsCLists : List Nat := [0,1,2,3,4,5,6,7,8,9]
attribute [go_sem] k44_VsCLists a44_6_VsCLists o44_6_VsCLists
theorem f44_ok (na nb : Bool) (xs ys : List (Bool × UInt8 × List UInt8)) (hB : xs.length ≤ 10000) : CallsP Try.prog 44 [.sl none na 2 (xs.map pAV), .sl none nb 2 (ys.map pAV)] (.bool (sameL xs ys)) := by
  refine CallsP.intro Try.func44 rfl (by show 2 ≤ 27; decide) ?_
  rintro X hX
  have hn : X.n = 27 := hX
  unfold Try.f44
  dsimp only
  rw [entry2]
  repeat' first
    | with_reducible (first | refine AWP.seqA ?_ | refine AWP.seqB ?_ | refine AWP.block ?_ | refine AWP.skipN ?_ | refine AWP.skip ?_ | refine AWP.exit ?_ | refine AWP.ret ?_ | refine LoopN.succ ?_ | refine thenS_n ?_ | refine thenS_x ?_ | refine thenS_r ?_ | refine blockS_n ?_ | refine blockS_r ?_ | refine blockS_x ?_ | refine blockS_y (by decide) ?_)
    | ((with_reducible refine hK _ ?_); clear hK K) | ((with_reducible refine hKt ?_); clear hKt hKf Kt Kf) | ((with_reducible refine hKf ?_); clear hKt hKf Kt Kf) | ((with_reducible refine condP_split (fun hg => hKt ?_) (fun hg => hKf ?_)) <;> clear hKt hKf Kt Kf <;> (try simp only [hgW] at hg) <;> try (exfalso; omega))
    | ((first | (with_reducible refine guardP_split (fun hg => ?_) (fun hg => ?_)) <;> simp -implicitDefEqProofs only [hg, hn, go_sem, simprocAttr] <;> (try simp only [hgW] at hg) | ((first | with_reducible (first | refine AWP.seqRB k44_VsCLists fun K hK => ?_ | refine AWP.lastRB k44_VsCLists fun K hK => ?_ | refine AWP.seqD (id := 6) k44_VsCLists a44_6_VsCLists o44_6_VsCLists mixed (by kernel_rfl) (by kernel_rfl) fun K hK => ?_ | refine AWP.lastD (id := 6) k44_VsCLists a44_6_VsCLists o44_6_VsCLists mixed (by kernel_rfl) (by kernel_rfl) fun K hK => ?_ | refine AWP.seqC fun Kt Kf hKt hKf => ?_ | refine AWP.condK fun Kt Kf hKt hKf => ?_ | refine retS_ret ?_ | refine retS_end ?_)); simp -implicitDefEqProofs only [hn, go_sem, simprocAttr])) <;> try simp (disch := omega) only [wrW])
    | with_reducible refine And.intro (by first | omega | (simp only [hgW]; omega)) ?_
    | (exfalso; omega)
  · have : sameL xs ys = false := by
      unfold sameL
      refine beq_eq_false_iff_ne.2 fun h => hg ?_
      have := congrArg List.length h
      simp at this; omega
    rw [this]
  refine AWP.loopX [0, 1, 5] [] (fun i : Nat => St.mk (lk [(0, .sl none na 2 (xs.map pAV)), (1, .sl none nb 2 (ys.map pAV)), (5, .int .i64 (i : Int))]) (lkB []) (hasS []) (hasS []) (hasN []) (lkR []))
    (fun i => i ≤ xs.length ∧ (xs.map (·.2)).take i = (ys.map (·.2)).take i) (fun i => xs.length - i) 0 ?_ ⟨by omega, rfl⟩ ?_
  · simp -implicitDefEqProofs only [hn, go_sem, simprocAttr]
    try rfl
  · rintro i ⟨h1, h2⟩
    have px : pAV (xs.getD i default) = .agg [.int .u8 ((xs.getD i default).2.1.toNat : Int), .sl none (xs.getD i default).1 1 ((xs.getD i default).2.2.map u8)] := rfl
    have py : pAV (ys.getD i default) = .agg [.int .u8 ((ys.getD i default).2.1.toNat : Int), .sl none (ys.getD i default).1 1 ((ys.getD i default).2.2.map u8)] := rfl
    by_cases hi : i < xs.length
    · skip
      repeat' first
        | with_reducible (first | refine AWP.seqA ?_ | refine AWP.seqB ?_ | refine AWP.block ?_ | refine AWP.skipN ?_ | refine AWP.skip ?_ | refine AWP.exit ?_ | refine AWP.ret ?_ | refine LoopN.succ ?_ | refine thenS_n ?_ | refine thenS_x ?_ | refine thenS_r ?_ | refine blockS_n ?_ | refine blockS_r ?_ | refine blockS_x ?_ | refine blockS_y (by decide) ?_)
        | ((with_reducible refine hK _ ?_); clear hK K) | ((with_reducible refine hKt ?_); clear hKt hKf Kt Kf) | ((with_reducible refine hKf ?_); clear hKt hKf Kt Kf) | ((with_reducible refine condP_split (fun hg => hKt ?_) (fun hg => hKf ?_)) <;> clear hKt hKf Kt Kf <;> (try simp only [hgW] at hg) <;> try (exfalso; omega))
        | ((first | (with_reducible refine guardP_split (fun hg => ?_) (fun hg => ?_)) <;> simp -implicitDefEqProofs only [hg, px, py, hn, go_sem, simprocAttr] <;> (try simp only [hgW] at hg) | ((first | with_reducible (first | refine AWP.seqRB k44_VsCLists fun K hK => ?_ | refine AWP.lastRB k44_VsCLists fun K hK => ?_ | refine AWP.seqD (id := 6) k44_VsCLists a44_6_VsCLists o44_6_VsCLists mixed (by kernel_rfl) (by kernel_rfl) fun K hK => ?_ | refine AWP.lastD (id := 6) k44_VsCLists a44_6_VsCLists o44_6_VsCLists mixed (by kernel_rfl) (by kernel_rfl) fun K hK => ?_ | refine AWP.seqC fun Kt Kf hKt hKf => ?_ | refine AWP.condK fun Kt Kf hKt hKf => ?_ | refine retS_ret ?_ | refine retS_end ?_) | refine callE_P (f41_ok (xs.getD i default).2.1 (ys.getD i default).2.1 (xs.getD i default).1 (ys.getD i default).1 (xs.getD i default).2.2 (ys.getD i default).2.2) ?_ | refine callP_intro2 (f41_ok (xs.getD i default).2.1 (ys.getD i default).2.1 (xs.getD i default).1 (ys.getD i default).1 (xs.getD i default).2.2 (ys.getD i default).2.2) ?_ | refine callE_X (f41_ok (xs.getD i default).2.1 (ys.getD i default).2.1 (xs.getD i default).1 (ys.getD i default).1 (xs.getD i default).2.2 (ys.getD i default).2.2) ?_); simp -implicitDefEqProofs only [px, py, hn, go_sem, simprocAttr])) <;> try simp (disch := omega) only [wrW])
        | with_reducible refine And.intro (by first | omega | (simp only [hgW]; omega)) ?_
        | (exfalso; omega)
      · have : sameL xs ys = false := by
          unfold sameL
          refine beq_eq_false_iff_ne.2 fun h => ?_
          have h3 := congrArg (fun l => l.getD i (default : UInt8 × List UInt8)) h
          simp only [getD_snd] at h3
          rw [h3] at hg
          simp at hg
        rw [this]
      · refine ⟨i + 1, ?_, ⟨by omega, ?_⟩, by omega⟩
        · simp -implicitDefEqProofs only [hn, go_sem, simprocAttr]
          rfl
        · rw [take_snd hi, take_snd (xs := ys) (by omega), h2]
          simp only [Bool.and_eq_true, decide_eq_true_eq, beq_iff_eq] at hg
          rw [show (xs.getD i default).2 = (ys.getD i default).2 from Prod.ext hg.1 hg.2]
    · skip
      repeat' first
        | with_reducible (first | refine AWP.seqA ?_ | refine AWP.seqB ?_ | refine AWP.block ?_ | refine AWP.skipN ?_ | refine AWP.skip ?_ | refine AWP.exit ?_ | refine AWP.ret ?_ | refine LoopN.succ ?_ | refine thenS_n ?_ | refine thenS_x ?_ | refine thenS_r ?_ | refine blockS_n ?_ | refine blockS_r ?_ | refine blockS_x ?_ | refine blockS_y (by decide) ?_)
        | ((with_reducible refine hK _ ?_); clear hK K) | ((with_reducible refine hKt ?_); clear hKt hKf Kt Kf) | ((with_reducible refine hKf ?_); clear hKt hKf Kt Kf) | ((with_reducible refine condP_split (fun hg => hKt ?_) (fun hg => hKf ?_)) <;> clear hKt hKf Kt Kf <;> (try simp only [hgW] at hg) <;> try (exfalso; omega))
        | ((first | (with_reducible refine guardP_split (fun hg => ?_) (fun hg => ?_)) <;> simp -implicitDefEqProofs only [hg, hn, go_sem, simprocAttr] <;> (try simp only [hgW] at hg) | ((first | with_reducible (first | refine AWP.seqRB k44_VsCLists fun K hK => ?_ | refine AWP.lastRB k44_VsCLists fun K hK => ?_ | refine AWP.seqD (id := 6) k44_VsCLists a44_6_VsCLists o44_6_VsCLists mixed (by kernel_rfl) (by kernel_rfl) fun K hK => ?_ | refine AWP.lastD (id := 6) k44_VsCLists a44_6_VsCLists o44_6_VsCLists mixed (by kernel_rfl) (by kernel_rfl) fun K hK => ?_ | refine AWP.seqC fun Kt Kf hKt hKf => ?_ | refine AWP.condK fun Kt Kf hKt hKf => ?_ | refine retS_ret ?_ | refine retS_end ?_)); simp -implicitDefEqProofs only [hn, go_sem, simprocAttr])) <;> try simp (disch := omega) only [wrW])
        | with_reducible refine And.intro (by first | omega | (simp only [hgW]; omega)) ?_
        | (exfalso; omega)
      have : sameL xs ys = true := by
        unfold sameL
        rw [beq_iff_eq]
        have e : i = xs.length := by omega
        have e1 : i = ys.length := by omega
        rw [List.take_of_length_le (by simp; omega), List.take_of_length_le (by simp; omega)] at h2
        exact h2
      rw [this]
/-- A sequence's pieces. -/
def seqA (bs : List UInt8) : AV :=
  match readSpec bs with
  | .inl e => .tup [.sl none true 2 [], .int .i64 e]
  | .inr (h, k) => if (bs.getD 0 default).toNat = 48 ∧ h + k = bs.length then listA ((bs.drop h).take k) else .tup [.sl none true 2 [], .int .i64 30]
def k45_VsCLists : List Nat := [0,2,3,4,5,6,14,23]
attribute [go_sem] k45_VsCLists
theorem f45_ok (nb : Bool) (bs : List UInt8) (hnb : nb = true → bs = []) (hB : bs.length ≤ 10000) : CallsP Try.prog 45 [.sl none nb 1 (bs.map u8)] (seqA bs) := by
  have c40 := f40_any nb bs hnb
  unfold readA at c40
  unfold seqA
  cases hs : readSpec bs with
  | inl e =>
    rw [hs] at c40
    simp only at c40 ⊢
    have he := spec_err hs
    refine CallsP.introF Try.func45 rfl (by show 1 ≤ 29; decide) ?_
    rintro X hX
    have hn : X.n = 29 := hX
    unfold Try.f45
    dsimp only
    rw [entryB_0, entry1]
    repeat' first
      | with_reducible (first | refine AWP.seqA ?_ | refine AWP.seqB ?_ | refine AWP.block ?_ | refine AWP.skipN ?_ | refine AWP.skip ?_ | refine AWP.exit ?_ | refine AWP.ret ?_ | refine LoopN.succ ?_ | refine thenS_n ?_ | refine thenS_x ?_ | refine thenS_r ?_ | refine blockS_n ?_ | refine blockS_r ?_ | refine blockS_x ?_ | refine blockS_y (by decide) ?_)
      | ((with_reducible refine hK _ ?_); clear hK K) | ((with_reducible refine hKt ?_); clear hKt hKf Kt Kf) | ((with_reducible refine hKf ?_); clear hKt hKf Kt Kf) | ((with_reducible refine condP_split (fun hg => hKt ?_) (fun hg => hKf ?_)) <;> clear hKt hKf Kt Kf <;> (try simp only [hgW] at hg) <;> try (exfalso; omega))
      | ((first | (with_reducible refine guardP_split (fun hg => ?_) (fun hg => ?_)) <;> simp -implicitDefEqProofs only [hg, hn, go_sem, simprocAttr] <;> (try simp only [hgW] at hg) | ((first | with_reducible (first | refine AWP.seqRB k45_VsCLists fun K hK => ?_ | refine AWP.lastRB k45_VsCLists fun K hK => ?_ | refine AWP.seqC fun Kt Kf hKt hKf => ?_ | refine AWP.condK fun Kt Kf hKt hKf => ?_ | refine retSF_ret [] ?_ | refine retSF_end [] ?_) | refine callE_P (c40) ?_ | refine callP_intro2 (c40) ?_ | refine callE_X (c40) ?_); simp -implicitDefEqProofs only [hn, go_sem, simprocAttr])) <;> try simp (disch := omega) only [wrW])
      | with_reducible refine And.intro (by first | omega | (simp only [hgW]; omega)) ?_
      | (exfalso; omega)
  | inr p =>
    obtain ⟨h, k⟩ := p
    rw [hs] at c40
    simp only at c40 ⊢
    have hp := spec_pos hs
    have c42 := f42_ok false ((bs.drop h).take k) (by simp) (by simp; omega)
    by_cases hc : (bs.getD 0 default).toNat = 48 ∧ h + k = bs.length
    · rw [if_pos hc]
      by_cases hz : errZ (zsS ((bs.drop h).take k)) = 0
      · unfold listA at c42 ⊢
        rw [if_pos hz] at c42 ⊢
        refine CallsP.introF Try.func45 rfl (by show 1 ≤ 29; decide) ?_
        rintro X hX
        have hn : X.n = 29 := hX
        unfold Try.f45
        dsimp only
        rw [entryB_0, entry1]
        repeat' first
          | with_reducible (first | refine AWP.seqA ?_ | refine AWP.seqB ?_ | refine AWP.block ?_ | refine AWP.skipN ?_ | refine AWP.skip ?_ | refine AWP.exit ?_ | refine AWP.ret ?_ | refine LoopN.succ ?_ | refine thenS_n ?_ | refine thenS_x ?_ | refine thenS_r ?_ | refine blockS_n ?_ | refine blockS_r ?_ | refine blockS_x ?_ | refine blockS_y (by decide) ?_)
          | ((with_reducible refine hK _ ?_); clear hK K) | ((with_reducible refine hKt ?_); clear hKt hKf Kt Kf) | ((with_reducible refine hKf ?_); clear hKt hKf Kt Kf) | ((with_reducible refine condP_split (fun hg => hKt ?_) (fun hg => hKf ?_)) <;> clear hKt hKf Kt Kf <;> (try simp only [hgW] at hg) <;> try (exfalso; omega))
          | ((first | (with_reducible refine guardP_split (fun hg => ?_) (fun hg => ?_)) <;> simp -implicitDefEqProofs only [hg, hn, go_sem, simprocAttr] <;> (try simp only [hgW] at hg) | ((first | with_reducible (first | refine AWP.seqRB k45_VsCLists fun K hK => ?_ | refine AWP.lastRB k45_VsCLists fun K hK => ?_ | refine AWP.seqC fun Kt Kf hKt hKf => ?_ | refine AWP.condK fun Kt Kf hKt hKf => ?_ | refine retSF_ret [] ?_ | refine retSF_end [] ?_) | refine callE_P (c40) ?_ | refine callP_intro2 (c40) ?_ | refine callE_X (c40) ?_ | refine callE_P (c42) ?_ | refine callP_intro2 (c42) ?_ | refine callE_X (c42) ?_); simp -implicitDefEqProofs only [hn, go_sem, simprocAttr])) <;> try simp (disch := omega) only [wrW])
          | with_reducible refine And.intro (by first | omega | (simp only [hgW]; omega)) ?_
          | (exfalso; omega)
        all_goals trace_state
      · unfold listA at c42 ⊢
        rw [if_neg hz] at c42 ⊢
        refine CallsP.introF Try.func45 rfl (by show 1 ≤ 29; decide) ?_
        rintro X hX
        have hn : X.n = 29 := hX
        unfold Try.f45
        dsimp only
        rw [entryB_0, entry1]
        repeat' first
          | with_reducible (first | refine AWP.seqA ?_ | refine AWP.seqB ?_ | refine AWP.block ?_ | refine AWP.skipN ?_ | refine AWP.skip ?_ | refine AWP.exit ?_ | refine AWP.ret ?_ | refine LoopN.succ ?_ | refine thenS_n ?_ | refine thenS_x ?_ | refine thenS_r ?_ | refine blockS_n ?_ | refine blockS_r ?_ | refine blockS_x ?_ | refine blockS_y (by decide) ?_)
          | ((with_reducible refine hK _ ?_); clear hK K) | ((with_reducible refine hKt ?_); clear hKt hKf Kt Kf) | ((with_reducible refine hKf ?_); clear hKt hKf Kt Kf) | ((with_reducible refine condP_split (fun hg => hKt ?_) (fun hg => hKf ?_)) <;> clear hKt hKf Kt Kf <;> (try simp only [hgW] at hg) <;> try (exfalso; omega))
          | ((first | (with_reducible refine guardP_split (fun hg => ?_) (fun hg => ?_)) <;> simp -implicitDefEqProofs only [hg, hn, go_sem, simprocAttr] <;> (try simp only [hgW] at hg) | ((first | with_reducible (first | refine AWP.seqRB k45_VsCLists fun K hK => ?_ | refine AWP.lastRB k45_VsCLists fun K hK => ?_ | refine AWP.seqC fun Kt Kf hKt hKf => ?_ | refine AWP.condK fun Kt Kf hKt hKf => ?_ | refine retSF_ret [] ?_ | refine retSF_end [] ?_) | refine callE_P (c40) ?_ | refine callP_intro2 (c40) ?_ | refine callE_X (c40) ?_ | refine callE_P (c42) ?_ | refine callP_intro2 (c42) ?_ | refine callE_X (c42) ?_); simp -implicitDefEqProofs only [hn, go_sem, simprocAttr])) <;> try simp (disch := omega) only [wrW])
          | with_reducible refine And.intro (by first | omega | (simp only [hgW]; omega)) ?_
          | (exfalso; omega)
        all_goals trace_state
    · rw [if_neg hc]
      refine CallsP.introF Try.func45 rfl (by show 1 ≤ 29; decide) ?_
      rintro X hX
      have hn : X.n = 29 := hX
      unfold Try.f45
      dsimp only
      rw [entryB_0, entry1]
      repeat' first
        | with_reducible (first | refine AWP.seqA ?_ | refine AWP.seqB ?_ | refine AWP.block ?_ | refine AWP.skipN ?_ | refine AWP.skip ?_ | refine AWP.exit ?_ | refine AWP.ret ?_ | refine LoopN.succ ?_ | refine thenS_n ?_ | refine thenS_x ?_ | refine thenS_r ?_ | refine blockS_n ?_ | refine blockS_r ?_ | refine blockS_x ?_ | refine blockS_y (by decide) ?_)
        | ((with_reducible refine hK _ ?_); clear hK K) | ((with_reducible refine hKt ?_); clear hKt hKf Kt Kf) | ((with_reducible refine hKf ?_); clear hKt hKf Kt Kf) | ((with_reducible refine condP_split (fun hg => hKt ?_) (fun hg => hKf ?_)) <;> clear hKt hKf Kt Kf <;> (try simp only [hgW] at hg) <;> try (exfalso; omega))
        | ((first | (with_reducible refine guardP_split (fun hg => ?_) (fun hg => ?_)) <;> simp -implicitDefEqProofs only [hg, hn, go_sem, simprocAttr] <;> (try simp only [hgW] at hg) | ((first | with_reducible (first | refine AWP.seqRB k45_VsCLists fun K hK => ?_ | refine AWP.lastRB k45_VsCLists fun K hK => ?_ | refine AWP.seqC fun Kt Kf hKt hKf => ?_ | refine AWP.condK fun Kt Kf hKt hKf => ?_ | refine retSF_ret [] ?_ | refine retSF_end [] ?_) | refine callE_P (c40) ?_ | refine callP_intro2 (c40) ?_ | refine callE_X (c40) ?_); simp -implicitDefEqProofs only [hn, go_sem, simprocAttr])) <;> try simp (disch := omega) only [wrW])
        | with_reducible refine And.intro (by first | omega | (simp only [hgW]; omega)) ?_
        | (exfalso; omega)
      all_goals trace_state
end Go.Proofs.Ytedjcbdhafmjiaa
