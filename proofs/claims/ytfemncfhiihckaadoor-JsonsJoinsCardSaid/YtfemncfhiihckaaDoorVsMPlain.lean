/- A text's signs that stand for themselves. -/
import Derived.Test.YtfemncfhiihckaaDoorVsTy
import Derived.Test.YtfemncfhiihckaaDoorVsTree
open Go Go.VS
namespace Go.Proofs.YtfemncfhiihckaaDoor
set_option linter.unusedVariables false
set_option linter.unusedSimpArgs false
set_option maxRecDepth 20000
set_option maxHeartbeats 4000000
def plStep (out : List UInt8) (c : Nat) : List UInt8 :=
  if 32 ≤ c ∧ c ≠ 34 ∧ c ≠ 92 ∧ c ≠ 65533 ∧ out.length < 40 then out ++ (Utf8.encode (c : Int)).data.toList else out
def plG (out : List UInt8) : List UInt8 → List UInt8
  | [] => out
  | c :: t => plG (plStep out (Go.Lib.decodeL (c :: t)).1) ((c :: t).drop (Go.Lib.decodeL (c :: t)).2)
  termination_by r => r.length
  decreasing_by
    have := Go.Lib.decodeL_width (c :: t)
    simp only [List.length_drop, List.length_cons]
    omega
def plainT (s : List UInt8) : List UInt8 := plG [] s
theorem encode_len (r : Int) : (Utf8.encode r).data.toList.length ≤ 4 := by
  unfold Utf8.encode
  dsimp only
  generalize (if Utf8.valid r then r.toNat else Utf8.runeError) = c
  split
  · simp
  split
  · simp
  split
  · simp
  · simp
theorem plStep_len (out : List UInt8) (c : Nat) (h : out.length ≤ 43) : (plStep out c).length ≤ 43 := by
  unfold plStep
  have := encode_len (c : Int)
  split
  · rw [List.length_append]; omega
  · exact h
theorem plG_len : ∀ (n : Nat) (out r : List UInt8), r.length ≤ n → out.length ≤ 43 → (plG out r).length ≤ 43
  | _, out, [], _, h => by rw [plG]; exact h
  | n + 1, out, c :: t, hn, h => by
    rw [plG]
    have := Go.Lib.decodeL_width (c :: t)
    exact plG_len n _ _ (by simp only [List.length_drop, List.length_cons] at hn ⊢; omega) (plStep_len out _ h)
theorem plainT_len (s : List UInt8) : (plainT s).length ≤ 43 := plG_len s.length [] s (Nat.le_refl _) (by simp)
def k29_VsMPlain : List Nat := [0,2,3,5,7,8,9,29,35]
attribute [go_sem] k29_VsMPlain
theorem f29_ok (s : List UInt8) : CallsP Tryd.prog 29 [.str s] (.str (plainT s)) := by
  refine CallsP.intro Tryd.func29 rfl (by show 1 ≤ 35; decide) ?_
  rintro X hX
  have hn : X.n = 35 := hX
  unfold Tryd.f29
  dsimp only
  rw [entry1]
  repeat' first
   | (refine fun (ib : Nat) => ?_)
   | with_reducible refine Rl.go (by constructor <;> decide) ?_
   | ((with_reducible first | refine hK _ ?_ | refine hK.1 ?_ | refine hK.2 ?_); clear hK K)
   | ((with_reducible refine condS hK (fun hg => ?_) fun hg => ?_) <;> clear hK K <;> (try simp only [hgW] at hg) <;> try (exfalso; omega))
   | ((first | ((with_reducible first | refine Rk.go k29_VsMPlain (by constructor) ?_); intro K hK) | with_reducible refine Rr.go [] (by constructor) ?_ | (with_reducible refine guardP_split (fun hg => ?_) fun hg => ?_) <;> (try simp only [hg]) <;> (try simp only [hgW] at hg)) <;> simp -implicitDefEqProofs only [isHid, hn, go_sem, simprocAttr] <;> try (simp (disch := omega) only [wrW]; try simp -implicitDefEqProofs only [isHid, hn, go_sem, simprocAttr]))
   | with_reducible refine And.intro (by first | omega | (simp only [hgW]; omega)) ?_
   | (exfalso; omega)
  refine AWP.loopX [3, 7, 35] [] (fun x : List UInt8 × List UInt8 × List UInt8 => St.mk (lk [(3, .str x.1), (7, .itp ib none), (35, .itp ib (some (x.2.1, x.2.2)))]) (lkB []) (hasS []) (hasS []) (hasN []) (lkR []))
    (fun x => plG x.1 x.2.2 = plainT s) (fun x => x.2.2.length) ([], [], s) ?_ rfl ?_
  · simp -implicitDefEqProofs only [hn, go_sem, simprocAttr]
    try rfl
  rintro ⟨out, a, r⟩ hH
  try dsimp only at hH ⊢
  cases r with
  | nil =>
    rw [plG] at hH
    repeat' first
     | (refine fun (ib : Nat) => ?_)
     | with_reducible refine Rl.go (by constructor <;> decide) ?_
     | ((with_reducible first | refine hK _ ?_ | refine hK.1 ?_ | refine hK.2 ?_); clear hK K)
     | ((with_reducible refine condS hK (fun hg => ?_) fun hg => ?_) <;> clear hK K <;> (try simp only [hgW] at hg) <;> try (exfalso; omega))
     | ((first | ((with_reducible first | refine Rk.go k29_VsMPlain (by constructor) ?_); intro K hK) | with_reducible refine Rr.go [] (by constructor) ?_ | (with_reducible refine guardP_split (fun hg => ?_) fun hg => ?_) <;> (try simp only [hg]) <;> (try simp only [hgW] at hg)) <;> simp -implicitDefEqProofs only [hH, hn, go_sem, simprocAttr] <;> try (simp (disch := omega) only [wrW]; try simp -implicitDefEqProofs only [hH, hn, go_sem, simprocAttr]))
     | with_reducible refine And.intro (by first | omega | (simp only [hgW]; omega)) ?_
     | (exfalso; omega)
  | cons c t =>
    rw [plG] at hH
    have hw := Go.Lib.decodeL_width (c :: t)
    have hr := Go.Lib.decodeL_rune (c :: t)
    obtain ⟨q, hq⟩ : ∃ q, Go.Lib.decodeL (c :: t) = q := ⟨_, rfl⟩
    obtain ⟨q1, q2⟩ := q
    rw [hq] at hH hw hr
    simp only at hH hw hr
    by_cases h0 : 32 ≤ q1 ∧ q1 ≠ 34 ∧ q1 ≠ 92 ∧ q1 ≠ 65533 ∧ out.length < 40
    · unfold plStep at hH
      rw [if_pos h0] at hH
      have hel := encode_len (q1 : Int)
      repeat' first
       | (refine fun (ib : Nat) => ?_)
       | with_reducible refine Rl.go (by constructor <;> decide) ?_
       | ((with_reducible first | refine hK _ ?_ | refine hK.1 ?_ | refine hK.2 ?_); clear hK K)
       | ((with_reducible refine condS hK (fun hg => ?_) fun hg => ?_) <;> clear hK K <;> (try simp only [hgW] at hg) <;> try (exfalso; omega))
       | ((first | ((with_reducible first | refine Rk.go k29_VsMPlain (by constructor) ?_); intro K hK) | with_reducible refine Rr.go [] (by constructor) ?_ | (with_reducible refine guardP_split (fun hg => ?_) fun hg => ?_) <;> (try simp only [hg]) <;> (try simp only [hgW] at hg)) <;> simp -implicitDefEqProofs only [hq, hn, go_sem, simprocAttr] <;> try (simp (disch := omega) only [wrW]; try simp -implicitDefEqProofs only [hq, hn, go_sem, simprocAttr]))
       | with_reducible refine And.intro (by first | omega | (simp only [hgW]; omega)) ?_
       | (exfalso; omega)
      refine ⟨(out ++ (Utf8.encode (q1 : Int)).data.toList, a ++ (c :: t).take q2, (c :: t).drop q2), ?_, hH, by simp only [List.length_drop, List.length_cons]; omega⟩
      simp -implicitDefEqProofs only [hn, go_sem, simprocAttr]
      try rfl
    · unfold plStep at hH
      rw [if_neg h0] at hH
      repeat' first
       | (refine fun (ib : Nat) => ?_)
       | with_reducible refine Rl.go (by constructor <;> decide) ?_
       | ((with_reducible first | refine hK _ ?_ | refine hK.1 ?_ | refine hK.2 ?_); clear hK K)
       | ((with_reducible refine condS hK (fun hg => ?_) fun hg => ?_) <;> clear hK K <;> (try simp only [hgW] at hg) <;> try (exfalso; omega))
       | ((first | ((with_reducible first | refine Rk.go k29_VsMPlain (by constructor) ?_); intro K hK) | with_reducible refine Rr.go [] (by constructor) ?_ | (with_reducible refine guardP_split (fun hg => ?_) fun hg => ?_) <;> (try simp only [hg]) <;> (try simp only [hgW] at hg)) <;> simp -implicitDefEqProofs only [hq, hn, go_sem, simprocAttr] <;> try (simp (disch := omega) only [wrW]; try simp -implicitDefEqProofs only [hq, hn, go_sem, simprocAttr]))
       | with_reducible refine And.intro (by first | omega | (simp only [hgW]; omega)) ?_
       | (exfalso; omega)
      all_goals refine ⟨(out, a ++ (c :: t).take q2, (c :: t).drop q2), ?_, hH, by simp only [List.length_drop, List.length_cons]; omega⟩
      all_goals simp -implicitDefEqProofs only [hn, go_sem, simprocAttr]
      all_goals try rfl
end Go.Proofs.YtfemncfhiihckaaDoor
