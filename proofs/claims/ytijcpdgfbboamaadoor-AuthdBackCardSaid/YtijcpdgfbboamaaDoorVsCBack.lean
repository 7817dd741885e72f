/- What Same comes to, of any two items. -/
import Derived.Test.YtijcpdgfbboamaaDoorVsCRight
import Derived.Test.YtijcpdgfbboamaaDoorVsCRef3
import Derived.Test.YtijcpdgfbboamaaDoorVsCMade2
import Derived.Test.YtijcpdgfbboamaaDoorVsCOneW
open Go Go.VS
namespace Go.Proofs.YtijcpdgfbboamaaDoor
set_option linter.unusedVariables false
set_option linter.unusedSimpArgs false
set_option maxRecDepth 20000
set_option maxHeartbeats 4000000
def zipB (f : CI → CI → Bool) : List CI → List CI → Bool
  | [], [] => true
  | x :: xs, y :: ys => f x y && zipB f xs ys
  | _, _ => false
def headB (x y : CI) : Bool := decide (x.k = y.k ∧ x.n = y.n ∧ x.b = y.b ∧ x.ks.length = y.ks.length)
/-- Are two items the same, so deep? -/
def sameB : Nat → CI → CI → Bool
  | 0, x, y => headB x y
  | d + 1, x, y => headB x y && zipB (sameB d) x.ks y.ks
def k27_VsCSame : List Nat := [0,1,2,3,4,5,35,40,54]
def a27_6_VsCSame : List Nat := [0,1,0,7,15,0,32,0,224,480,1023,2047]
def o27_6_VsCSame : List Nat := [0,1,2,3,4,5,6,7,8,9,10,11]
attribute [go_sem] k27_VsCSame a27_6_VsCSame o27_6_VsCSame
theorem f27_pair (f : CI → CI → Bool) (k n : Nat) (bn : Bool) (b : List UInt8) (kn : Bool) (ks : List CI) (k' n' : Nat) (bn' : Bool) (b' : List UInt8) (kn' : Bool) (ks' : List CI) (hks : ks.length ≤ 10000)
    (ih : ∀ x ∈ ks, ∀ y ∈ ks', CallsP Tryd.prog 27 [x.av, y.av] (.bool (f x y))) :
    CallsP Tryd.prog 27 [(CI.mk k n bn b kn ks).av, (CI.mk k' n' bn' b' kn' ks').av] (.bool (headB (.mk k n bn b kn ks) (.mk k' n' bn' b' kn' ks') && zipB f ks ks')) := by
  have eh : headB (.mk k n bn b kn ks) (.mk k' n' bn' b' kn' ks') = decide (k = k' ∧ n = n' ∧ b = b' ∧ ks.length = ks'.length) := rfl
  rw [eh]
  simp only [av_mk']
  by_cases hall : k = k' ∧ n = n' ∧ ks.length = ks'.length
  · obtain ⟨rfl, rfl, hl⟩ := hall
    by_cases hb : b = b'
    · subst hb
      rw [decide_eq_true ⟨rfl, rfl, rfl, hl⟩, Bool.true_and]
      obtain ⟨Z, hZ⟩ : ∃ Z, zipB f ks ks' = Z := ⟨_, rfl⟩
      rw [hZ]
      refine CallsP.intro Tryd.func27 rfl (by show 2 ≤ 55; decide) ?_
      rintro X hX
      have hn : X.n = 55 := hX
      unfold Tryd.f27
      dsimp only
      rw [entry2]
      repeat' first
       | with_reducible refine Rl.go (by constructor <;> decide) ?_
       | ((with_reducible first | refine hK _ ?_ | refine hK.1 ?_ | refine hK.2 ?_); clear hK K)
       | ((with_reducible refine condS hK (fun hg => ?_) fun hg => ?_) <;> clear hK K <;> (try simp only [hgW] at hg) <;> try (exfalso; omega))
       | ((first | ((with_reducible first | refine Rk.go k27_VsCSame (by constructor) ?_ | refine Rd.go 6 k27_VsCSame a27_6_VsCSame o27_6_VsCSame mixed (by constructor) (by kernel_rfl) (by kernel_rfl) ?_); intro K hK) | with_reducible refine Rr.go [] (by constructor) ?_ | (with_reducible refine guardP_split (fun hg => ?_) fun hg => ?_) <;> (try simp only [hg]) <;> (try simp only [hgW] at hg)) <;> simp -implicitDefEqProofs only [Int.cast_ofNat_Int, hn, go_sem, simprocAttr] <;> try simp (disch := omega) only [wrW])
       | with_reducible refine And.intro (by first | omega | (simp only [hgW]; omega)) ?_
       | (exfalso; omega)
      refine AWP.loopX [2, 3, 4, 5] [] (fun i : Nat => St.mk (lk [(2, .ptr 2 0), (3, .ptr 3 0), (4, .bool false), (5, .int .i64 (i : Int))])
          (lkB [(2, [.int .u8 (k : Int), .int .u64 (n : Int), .sl none bn 1 (b.map u8), .sl none kn 4 (ks.map CI.av)]), (3, [.int .u8 (k : Int), .int .u64 (n : Int), .sl none bn' 1 (b.map u8), .sl none kn' 4 (ks'.map CI.av)])]) (hasS []) (hasS []) (hasN []) (lkR []))
        (fun i => i ≤ ks.length ∧ zipB f (ks.drop i) (ks'.drop i) = Z) (fun i => ks.length - i) 0 ?_ ⟨Nat.zero_le _, hZ⟩ ?_
      · simp -implicitDefEqProofs only [Int.cast_ofNat_Int, hn, go_sem, simprocAttr]
        try rfl
      rintro i ⟨hi, hz⟩
      by_cases hiL : i = ks.length
      · subst hiL
        rw [List.drop_of_length_le (Nat.le_refl _), List.drop_of_length_le (by omega)] at hz
        simp only [zipB] at hz
        subst hz
        repeat' first
         | with_reducible refine Rl.go (by constructor <;> decide) ?_
         | ((with_reducible first | refine hK _ ?_ | refine hK.1 ?_ | refine hK.2 ?_); clear hK K)
         | ((with_reducible refine condS hK (fun hg => ?_) fun hg => ?_) <;> clear hK K <;> (try simp only [hgW] at hg) <;> try (exfalso; omega))
         | ((first | ((with_reducible first | refine Rk.go k27_VsCSame (by constructor) ?_ | refine Rd.go 6 k27_VsCSame a27_6_VsCSame o27_6_VsCSame mixed (by constructor) (by kernel_rfl) (by kernel_rfl) ?_); intro K hK) | with_reducible refine Rr.go [] (by constructor) ?_ | (with_reducible refine guardP_split (fun hg => ?_) fun hg => ?_) <;> (try simp only [hg]) <;> (try simp only [hgW] at hg)) <;> simp -implicitDefEqProofs only [Int.cast_ofNat_Int, hn, go_sem, simprocAttr] <;> try simp (disch := omega) only [wrW])
         | with_reducible refine And.intro (by first | omega | (simp only [hgW]; omega)) ?_
         | (exfalso; omega)
      · have hlt : i < ks.length := by omega
        have hlt' : i < ks'.length := by omega
        rw [List.drop_eq_getElem_cons hlt, List.drop_eq_getElem_cons hlt'] at hz
        simp only [zipB] at hz
        have c := ih ks[i] (List.getElem_mem hlt) ks'[i] (List.getElem_mem hlt')
        have hd : ks.getD i default = ks[i] := by rw [List.getD_eq_getElem?_getD, List.getElem?_eq_getElem hlt]; rfl
        have hd' : ks'.getD i default = ks'[i] := by rw [List.getD_eq_getElem?_getD, List.getElem?_eq_getElem hlt']; rfl
        generalize ks[i] = x at *
        generalize ks'[i] = y at *
        obtain ⟨o, ho⟩ : ∃ o, f x y = o := ⟨_, rfl⟩
        rw [ho] at c hz
        obtain ⟨xk, xn, xbn, xb, xkn, xks⟩ := x
        obtain ⟨yk, yn, ybn, yb, ykn, yks⟩ := y
        simp only [av_mk'] at c
        cases o with
        | true =>
          rw [Bool.true_and] at hz
          repeat' first
           | with_reducible refine Rl.go (by constructor <;> decide) ?_
           | ((with_reducible first | refine hK _ ?_ | refine hK.1 ?_ | refine hK.2 ?_); clear hK K)
           | ((with_reducible refine condS hK (fun hg => ?_) fun hg => ?_) <;> clear hK K <;> (try simp only [hgW] at hg) <;> try (exfalso; omega))
           | ((first | ((with_reducible first | refine Rk.go k27_VsCSame (by constructor) ?_ | refine Rd.go 6 k27_VsCSame a27_6_VsCSame o27_6_VsCSame mixed (by constructor) (by kernel_rfl) (by kernel_rfl) ?_); intro K hK) | with_reducible refine Rr.go [] (by constructor) ?_ | (with_reducible refine guardP_split (fun hg => ?_) fun hg => ?_) <;> (try simp only [hg]) <;> (try simp only [hgW] at hg) | refine Rc.go c (by constructor) ?_) <;> simp -implicitDefEqProofs only [hd, hd', av_mk', Int.cast_ofNat_Int, hn, go_sem, simprocAttr] <;> try simp (disch := omega) only [wrW])
           | with_reducible refine And.intro (by first | omega | (simp only [hgW]; omega)) ?_
           | (exfalso; omega)
          refine ⟨i + 1, ?_, ⟨by omega, hz⟩, by omega⟩
          have e2 : (i : Int) + 1 = ((i + 1 : Nat) : Int) := by omega
          rw [e2]
          simp -implicitDefEqProofs only [Int.cast_ofNat_Int, hn, go_sem, simprocAttr]
          try rfl
        | false =>
          rw [Bool.false_and] at hz
          subst hz
          repeat' first
           | with_reducible refine Rl.go (by constructor <;> decide) ?_
           | ((with_reducible first | refine hK _ ?_ | refine hK.1 ?_ | refine hK.2 ?_); clear hK K)
           | ((with_reducible refine condS hK (fun hg => ?_) fun hg => ?_) <;> clear hK K <;> (try simp only [hgW] at hg) <;> try (exfalso; omega))
           | ((first | ((with_reducible first | refine Rk.go k27_VsCSame (by constructor) ?_ | refine Rd.go 6 k27_VsCSame a27_6_VsCSame o27_6_VsCSame mixed (by constructor) (by kernel_rfl) (by kernel_rfl) ?_); intro K hK) | with_reducible refine Rr.go [] (by constructor) ?_ | (with_reducible refine guardP_split (fun hg => ?_) fun hg => ?_) <;> (try simp only [hg]) <;> (try simp only [hgW] at hg) | refine Rc.go c (by constructor) ?_) <;> simp -implicitDefEqProofs only [hd, hd', av_mk', Int.cast_ofNat_Int, hn, go_sem, simprocAttr] <;> try simp (disch := omega) only [wrW])
           | with_reducible refine And.intro (by first | omega | (simp only [hgW]; omega)) ?_
           | (exfalso; omega)
    · rw [decide_eq_false (fun h => hb h.2.2.1), Bool.false_and]
      have hb' : (b == b') = false := by simpa using hb
      refine CallsP.intro Tryd.func27 rfl (by show 2 ≤ 55; decide) ?_
      rintro X hX
      have hn : X.n = 55 := hX
      unfold Tryd.f27
      dsimp only
      rw [entry2]
      repeat' first
       | with_reducible refine Rl.go (by constructor <;> decide) ?_
       | ((with_reducible first | refine hK _ ?_ | refine hK.1 ?_ | refine hK.2 ?_); clear hK K)
       | ((with_reducible refine condS hK (fun hg => ?_) fun hg => ?_) <;> clear hK K <;> (try simp only [hgW] at hg) <;> try (exfalso; omega))
       | ((first | ((with_reducible first | refine Rk.go k27_VsCSame (by constructor) ?_ | refine Rd.go 6 k27_VsCSame a27_6_VsCSame o27_6_VsCSame mixed (by constructor) (by kernel_rfl) (by kernel_rfl) ?_); intro K hK) | with_reducible refine Rr.go [] (by constructor) ?_ | (with_reducible refine guardP_split (fun hg => ?_) fun hg => ?_) <;> (try simp only [hg]) <;> (try simp only [hgW] at hg)) <;> simp -implicitDefEqProofs only [hb', Int.cast_ofNat_Int, hn, go_sem, simprocAttr] <;> try simp (disch := omega) only [wrW])
       | with_reducible refine And.intro (by first | omega | (simp only [hgW]; omega)) ?_
       | (exfalso; omega)
  · rw [decide_eq_false (fun h => hall ⟨h.1, h.2.1, h.2.2.2⟩), Bool.false_and]
    refine CallsP.intro Tryd.func27 rfl (by show 2 ≤ 55; decide) ?_
    rintro X hX
    have hn : X.n = 55 := hX
    unfold Tryd.f27
    dsimp only
    rw [entry2]
    repeat' first
     | with_reducible refine Rl.go (by constructor <;> decide) ?_
     | ((with_reducible first | refine hK _ ?_ | refine hK.1 ?_ | refine hK.2 ?_); clear hK K)
     | ((with_reducible refine condS hK (fun hg => ?_) fun hg => ?_) <;> clear hK K <;> (try simp only [hgW] at hg) <;> try (exfalso; omega))
     | ((first | ((with_reducible first | refine Rk.go k27_VsCSame (by constructor) ?_ | refine Rd.go 6 k27_VsCSame a27_6_VsCSame o27_6_VsCSame mixed (by constructor) (by kernel_rfl) (by kernel_rfl) ?_); intro K hK) | with_reducible refine Rr.go [] (by constructor) ?_ | (with_reducible refine guardP_split (fun hg => ?_) fun hg => ?_) <;> (try simp only [hg]) <;> (try simp only [hgW] at hg)) <;> simp -implicitDefEqProofs only [Int.cast_ofNat_Int, hn, go_sem, simprocAttr] <;> try simp (disch := omega) only [wrW])
     | with_reducible refine And.intro (by first | omega | (simp only [hgW]; omega)) ?_
     | (exfalso; omega)
    all_goals (exfalso; omega)
theorem f27_all : ∀ (d : Nat) (x y : CI), Wide d x → Wide d y → CallsP Tryd.prog 27 [x.av, y.av] (.bool (sameB d x y))
  | 0, x, y, h, h' => by
    obtain ⟨k, n, bn, b, kn, ks⟩ := x
    obtain ⟨k', n', bn', b', kn', ks'⟩ := y
    have h : ks = [] := h
    have h' : ks' = [] := h'
    subst h
    subst h'
    have := f27_pair (fun _ _ => true) k n bn b kn [] k' n' bn' b' kn' [] (Nat.zero_le _) (fun x hx => by cases hx)
    simpa [sameB, zipB] using this
  | d + 1, x, y, h, h' => by
    obtain ⟨k, n, bn, b, kn, ks⟩ := x
    obtain ⟨k', n', bn', b', kn', ks'⟩ := y
    exact f27_pair (sameB d) k n bn b kn ks k' n' bn' b' kn' ks' h.1 (fun x hx y hy => f27_all d x y (h.2 x hx) (h'.2 y hy))
/-! ### What is read back is the same -/
theorem zipB_map (f : CI → CI → Bool) (g : CI → CI) : ∀ l : List CI, (∀ y ∈ l, f (g y) y = true) → zipB f (l.map g) l = true
  | [], _ => rfl
  | y :: l, h => by
    simp only [List.map_cons, zipB]
    rw [h y (by simp), zipB_map f g l (fun z hz => h z (by simp [hz]))]
    rfl
theorem leaf_same (p : CI) (e : Nat) : sameB e (canS (leafS p)) (leafS p) = true := by
  have key : headB (canS (leafS p)) (leafS p) = true ∧ (canS (leafS p)).ks = [] ∧ (leafS p).ks = [] := by
    have hk := (leaf_k p).1
    have hks := (leaf_k p).2
    unfold headB
    by_cases c2 : 1 + p.k % 9 ≤ 2
    · have e : leafS p = .mk (1 + p.k % 9) p.n true [] true [] := by unfold leafS; rw [if_pos c2]
      rw [e, canS_num _ (by exact c2)]
      exact ⟨by simp [CI.k, CI.n, CI.b, CI.ks], rfl, rfl⟩
    by_cases c3 : 1 + p.k % 9 = 3
    · have e : leafS p = .mk 3 0 p.bn (p.b.take 300) true [] := by unfold leafS; rw [if_neg c2, if_pos c3]
      rw [e, canS_txt _ (Or.inl rfl)]
      exact ⟨by simp [CI.k, CI.n, CI.b, CI.ks], rfl, rfl⟩
    by_cases c4 : 1 + p.k % 9 = 4
    · have e : leafS p = .mk 4 0 false (runesB (p.b.take 300)) true [] := by unfold leafS; rw [if_neg c2, if_neg c3, if_pos c4]
      rw [e, canS_txt _ (Or.inr rfl)]
      exact ⟨by simp [CI.k, CI.n, CI.b, CI.ks], rfl, rfl⟩
    have e : leafS p = .mk (1 + p.k % 9) 0 true [] true [] := by unfold leafS; rw [if_neg c2, if_neg c3, if_neg c4]
    by_cases c5 : 1 + p.k % 9 = 5 ∨ 1 + p.k % 9 = 6
    · rw [e, canS_grp (.mk (1 + p.k % 9) 0 true [] true []) c5]
      exact ⟨by simp [CI.k, CI.n, CI.b, CI.ks], rfl, rfl⟩
    · rw [e, canS_one (.mk (1 + p.k % 9) 0 true [] true []) (show 1 + p.k % 9 = 7 ∨ 1 + p.k % 9 = 8 ∨ 1 + p.k % 9 = 9 by omega)]
      exact ⟨by simp [CI.k, CI.n, CI.b, CI.ks], rfl, rfl⟩
  cases e with
  | zero => exact key.1
  | succ e => simp only [sameB]; rw [key.1, key.2.1, key.2.2]; rfl
theorem made_same : ∀ (d : Nat) (p : CI) (e : Nat), sameB e (canS (madeS d p)) (madeS d p) = true
  | 0, p, e => leaf_same p e
  | d + 1, p, e => by
    have kids : ∀ (k : Nat) (ks : List CI), (k = 5 ∨ k = 6) → (∀ y ∈ ks, ∀ f, sameB f (canS y) y = true) → sameB e (canS (.mk k 0 true [] ks.isEmpty ks)) (.mk k 0 true [] ks.isEmpty ks) = true := by
      intro k ks hk hy
      rw [canS_grp (.mk k 0 true [] ks.isEmpty ks) hk]
      have hh : headB (.mk k 0 true [] (ks.map canS).isEmpty (ks.map canS)) (.mk k 0 true [] ks.isEmpty ks) = true := by
        unfold headB; simp [CI.k, CI.n, CI.b, CI.ks]
      cases e with
      | zero => exact hh
      | succ e =>
        show (headB _ _ && zipB (sameB e) (ks.map canS) ks) = true
        rw [zipB_map _ _ _ (fun y h => hy y h e)]
        rw [Bool.and_true]
        exact hh
    simp only [madeS]
    split
    · refine kids 5 _ (Or.inl rfl) (fun y hy f => ?_)
      obtain ⟨z, hz, rfl⟩ := List.mem_map.1 hy
      exact made_same d z f
    split
    · refine kids 6 _ (Or.inr rfl) ?_
      exact fold_mem (madeS d) (fun y => ∀ f, sameB f (canS y) y = true) (p.ks.take 8) [] (fun x _ => ⟨leaf_same _, made_same d x⟩) (fun y hy => by cases hy)
    · exact leaf_same p e
theorem made_wide : ∀ (d : Nat) (p : CI) (e : Nat), d ≤ e → Wide (e + 1) (madeS d p)
  | 0, p, e, _ => Wide.leaf _ (leaf_k p).2
  | d + 1, p, e, h => by
    obtain ⟨e, rfl⟩ : ∃ e', e = e' + 1 := ⟨e - 1, by omega⟩
    simp only [madeS]
    have ht : (p.ks.take 8).length ≤ 8 := by rw [List.length_take]; omega
    split
    · refine ⟨by show ((p.ks.take 8).map (madeS d)).length ≤ 10000; rw [List.length_map]; omega, fun y hy => ?_⟩
      obtain ⟨z, hz, rfl⟩ := List.mem_map.1 (show y ∈ (p.ks.take 8).map (madeS d) from hy)
      exact made_wide d z e (by omega)
    split
    · have hl := fold_len (madeS d) (p.ks.take 8) [] rfl
      refine ⟨by show (foldS (madeS d) (p.ks.take 8) []).length ≤ 10000; simp only [List.length_nil] at hl; omega, ?_⟩
      exact fold_mem (madeS d) (Wide (e + 1)) (p.ks.take 8) [] (fun x _ => ⟨Wide.leaf _ (leaf_k _).2, made_wide d x e (by omega)⟩) (fun y hy => by cases hy)
    · exact Wide.leaf _ (leaf_k p).2
end Go.Proofs.YtijcpdgfbboamaaDoor
open Go Go.VS
namespace Go.Proofs.YtijcpdgfbboamaaDoor
set_option linter.unusedVariables false
set_option linter.unusedSimpArgs false
set_option maxRecDepth 20000
set_option maxHeartbeats 4000000
/-- What was written, with more behind, is read as what was written. -/
theorem dec_enc {valid : List UInt8 → Bool} {x : CI} {c : List UInt8} (hf : Fit 8 x) (h : encS valid x = (c, 0)) (r : List UInt8) (hl : (c ++ r).length ≤ 8192) : decS valid (c ++ r) = (canS x, some r, 0) := by
  have hR := item_reads valid 8 x ⟨[], 0⟩ hf
  unfold encS at h
  simp only at h
  split at h
  · rename_i h1
    have := congrArg Prod.snd h
    exact absurd this h1
  · rename_i h1
    split at h
    · cases h
    · have h2 := congrArg Prod.fst h
      simp only at h2
      obtain ⟨l, b1, r1⟩ := hR (by simpa using h1)
      rw [h2] at b1
      simp only [List.nil_append] at b1
      subst b1
      unfold decS
      rw [if_neg (by omega)]
      simp only
      rw [r1 r ⟨c ++ r, 0, 0⟩ rfl rfl rfl]
      simp
/-- What is read is written as it was. -/
theorem enc_can {valid : List UInt8 → Bool} {x : CI} {c : List UInt8} (hf : Fit 8 x) (h : encS valid x = (c, 0)) (hl : c.length ≤ 8192) : encS valid (canS x) = (c, 0) := by
  have h1 := dec_enc hf h [] (by simpa using hl)
  obtain ⟨c', r, h2, h3, h4⟩ := dec_back h1
  cases h2
  simp only [List.append_nil] at h4
  subst h4
  exact h3
theorem dec_wide2 (valid : List UInt8 → Bool) (b : List UInt8) : Wide 8 (decS valid b).1 := by
  unfold decS
  split
  · exact Wide.leaf _ rfl
  · simp only
    split
    · exact Wide.leaf _ rfl
    · exact item_wide valid 8 _
def k8_VsCBack : List Nat := [0,1,2,4,5,6,7,8,9,10,11,12,14,17,26,38]
attribute [go_sem] k8_VsCBack
theorem f8_ok (p : CI) (hp : PlanD 6 p) (nb : Bool) (b : List UInt8) (hnb : nb = true → b = []) : CallsP Tryd.prog 8 [p.av, .sl none nb 1 (b.map u8)] (.bool true) := by
  have c20 := made_ok 5 (by decide) p hp
  have hf := made_fit 8 5 p hp
  have hr : Right Go.Lib.validD 8 (madeS 5 p) := (made_right 5 p).up.up
  have hs := fun e => made_same 5 p e
  have hw := made_wide 5 p 7 (by decide)
  have c25 := f25_ok validI (madeS 5 p) hf
  have he := enc_writes hr
  generalize madeS 5 p = x at *
  by_cases hl : 1000 < b.length
  · obtain ⟨pk, pn, pbn, pb, pkn, pks⟩ := p
    rw [av_mk']
    refine CallsP.intro Tryd.func8 rfl (by show 2 ≤ 79; decide) ?_
    rintro X hX
    have hn : X.n = 79 := hX
    unfold Tryd.f8
    dsimp only
    rw [entry2]
    repeat' first
     | with_reducible refine Rl.go (by constructor <;> decide) ?_
     | ((with_reducible first | refine hK _ ?_ | refine hK.1 ?_ | refine hK.2 ?_); clear hK K)
     | ((with_reducible refine condS hK (fun hg => ?_) fun hg => ?_) <;> clear hK K <;> (try simp only [hgW] at hg) <;> try (exfalso; omega))
     | ((first | ((with_reducible first | refine Rk.go k8_VsCBack (by constructor) ?_); intro K hK) | with_reducible refine Rr.go [] (by constructor) ?_ | (with_reducible refine guardP_split (fun hg => ?_) fun hg => ?_) <;> (try simp only [hg]) <;> (try simp only [hgW] at hg) | refine Rc.go f17_ok (by constructor) ?_) <;> simp -implicitDefEqProofs only [Int.cast_ofNat_Int, hn, go_sem, simprocAttr] <;> try simp (disch := omega) only [wrW])
     | with_reducible refine And.intro (by first | omega | (simp only [hgW]; omega)) ?_
     | (exfalso; omega)
  obtain ⟨c, er, hc⟩ : ∃ c er, encS Go.Lib.validD x = (c, er) := ⟨_, _, rfl⟩
  rw [hc] at c25 he
  simp only at c25 he
  by_cases h0 : er = 0
  · subst h0
    have hce := enc_ne hc
    have hcn := enc_len hc
    by_cases hlong : 8192 < c.length + b.length
    · obtain ⟨pk, pn, pbn, pb, pkn, pks⟩ := p
      obtain ⟨xk, xn, xbn, xb, xkn, xks⟩ := x
      simp only [av_mk', bytesAV, hce] at *
      refine CallsP.intro Tryd.func8 rfl (by show 2 ≤ 79; decide) ?_
      rintro X hX
      have hn : X.n = 79 := hX
      unfold Tryd.f8
      dsimp only
      rw [entry2]
      repeat' first
       | with_reducible refine Rl.go (by constructor <;> decide) ?_
       | ((with_reducible first | refine hK _ ?_ | refine hK.1 ?_ | refine hK.2 ?_); clear hK K)
       | ((with_reducible refine condS hK (fun hg => ?_) fun hg => ?_) <;> clear hK K <;> (try simp only [hgW] at hg) <;> try (exfalso; omega))
       | ((first | ((with_reducible first | refine Rk.go k8_VsCBack (by constructor) ?_); intro K hK) | with_reducible refine Rr.go [] (by constructor) ?_ | (with_reducible refine guardP_split (fun hg => ?_) fun hg => ?_) <;> (try simp only [hg]) <;> (try simp only [hgW] at hg) | refine Rc.go f17_ok (by constructor) ?_ | refine Rc.go c20 (by constructor) ?_ | refine Rc.go c25 (by constructor) ?_) <;> simp -implicitDefEqProofs only [av_mk', Int.cast_ofNat_Int, hn, go_sem, simprocAttr] <;> try simp (disch := omega) only [wrW])
       | with_reducible refine And.intro (by first | omega | (simp only [hgW]; omega)) ?_
       | (exfalso; omega)
    have hcl : (c ++ b).length ≤ 8192 := by rw [List.length_append]; omega
    have hd := dec_enc hf hc b hcl
    have c26 := f26_ok valid_ok false (c ++ b) (fun h => by cases h)
    have hfc := dec_fit Go.Lib.validD (c ++ b)
    have hwc := dec_wide2 Go.Lib.validD (c ++ b)
    rw [hd] at c26 hfc hwc
    have c25b := f25_ok validI (canS x) hfc
    rw [enc_can hf hc (by omega)] at c25b
    have c27 := f27_all 8 (canS x) x hwc hw
    rw [hs 8] at c27
    have e1 : c.map u8 ++ b.map u8 = (c ++ b).map u8 := List.map_append.symm
    generalize canS x = y at *
    obtain ⟨pk, pn, pbn, pb, pkn, pks⟩ := p
    obtain ⟨xk, xn, xbn, xb, xkn, xks⟩ := x
    obtain ⟨yk, yn, ybn, yb, ykn, yks⟩ := y
    simp only [av_mk', bytesAV, hce, restAV] at c20 c25 c25b c26 c27
    rw [av_mk']
    refine CallsP.intro Tryd.func8 rfl (by show 2 ≤ 79; decide) ?_
    rintro X hX
    have hn : X.n = 79 := hX
    unfold Tryd.f8
    dsimp only
    rw [entry2]
    repeat' first
     | with_reducible refine Rl.go (by constructor <;> decide) ?_
     | ((with_reducible first | refine hK _ ?_ | refine hK.1 ?_ | refine hK.2 ?_); clear hK K)
     | ((with_reducible refine condS hK (fun hg => ?_) fun hg => ?_) <;> clear hK K <;> (try simp only [hgW] at hg) <;> try (exfalso; omega))
     | ((first | ((with_reducible first | refine Rk.go k8_VsCBack (by constructor) ?_); intro K hK) | with_reducible refine Rr.go [] (by constructor) ?_ | (with_reducible refine guardP_split (fun hg => ?_) fun hg => ?_) <;> (try simp only [hg]) <;> (try simp only [hgW] at hg) | refine Rc.go f17_ok (by constructor) ?_ | refine Rc.go c20 (by constructor) ?_ | refine Rc.go c25 (by constructor) ?_ | refine Rc.go c26 (by constructor) ?_ | refine Rc.go c25b (by constructor) ?_ | refine Rc.go c27 (by constructor) ?_) <;> simp -implicitDefEqProofs only [av_mk', e1, Int.cast_ofNat_Int, hn, go_sem, simprocAttr] <;> try simp (disch := omega) only [wrW])
     | with_reducible refine And.intro (by first | omega | (simp only [hgW]; omega)) ?_
     | (exfalso; omega)
    all_goals trace_state
  · obtain ⟨pk, pn, pbn, pb, pkn, pks⟩ := p
    obtain ⟨xk, xn, xbn, xb, xkn, xks⟩ := x
    simp only [av_mk', bytesAV] at *
    have he : er = 14 ∨ er = 3 := he.resolve_left h0
    rcases he with rfl | rfl
    · refine CallsP.intro Tryd.func8 rfl (by show 2 ≤ 79; decide) ?_
      rintro X hX
      have hn : X.n = 79 := hX
      unfold Tryd.f8
      dsimp only
      rw [entry2]
      repeat' first
       | with_reducible refine Rl.go (by constructor <;> decide) ?_
       | ((with_reducible first | refine hK _ ?_ | refine hK.1 ?_ | refine hK.2 ?_); clear hK K)
       | ((with_reducible refine condS hK (fun hg => ?_) fun hg => ?_) <;> clear hK K <;> (try simp only [hgW] at hg) <;> try (exfalso; omega))
       | ((first | ((with_reducible first | refine Rk.go k8_VsCBack (by constructor) ?_); intro K hK) | with_reducible refine Rr.go [] (by constructor) ?_ | (with_reducible refine guardP_split (fun hg => ?_) fun hg => ?_) <;> (try simp only [hg]) <;> (try simp only [hgW] at hg) | refine Rc.go f17_ok (by constructor) ?_ | refine Rc.go c20 (by constructor) ?_ | refine Rc.go c25 (by constructor) ?_) <;> simp -implicitDefEqProofs only [av_mk', Int.cast_ofNat_Int, hn, go_sem, simprocAttr] <;> try simp (disch := omega) only [wrW])
       | with_reducible refine And.intro (by first | omega | (simp only [hgW]; omega)) ?_
       | (exfalso; omega)
    · refine CallsP.intro Tryd.func8 rfl (by show 2 ≤ 79; decide) ?_
      rintro X hX
      have hn : X.n = 79 := hX
      unfold Tryd.f8
      dsimp only
      rw [entry2]
      repeat' first
       | with_reducible refine Rl.go (by constructor <;> decide) ?_
       | ((with_reducible first | refine hK _ ?_ | refine hK.1 ?_ | refine hK.2 ?_); clear hK K)
       | ((with_reducible refine condS hK (fun hg => ?_) fun hg => ?_) <;> clear hK K <;> (try simp only [hgW] at hg) <;> try (exfalso; omega))
       | ((first | ((with_reducible first | refine Rk.go k8_VsCBack (by constructor) ?_); intro K hK) | with_reducible refine Rr.go [] (by constructor) ?_ | (with_reducible refine guardP_split (fun hg => ?_) fun hg => ?_) <;> (try simp only [hg]) <;> (try simp only [hgW] at hg) | refine Rc.go f17_ok (by constructor) ?_ | refine Rc.go c20 (by constructor) ?_ | refine Rc.go c25 (by constructor) ?_) <;> simp -implicitDefEqProofs only [av_mk', Int.cast_ofNat_Int, hn, go_sem, simprocAttr] <;> try simp (disch := omega) only [wrW])
       | with_reducible refine And.intro (by first | omega | (simp only [hgW]; omega)) ?_
       | (exfalso; omega)
end Go.Proofs.YtijcpdgfbboamaaDoor
