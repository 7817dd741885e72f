/- What the reader's words come to. -/
import Derived.Test.YtfemncfhiihckaaDoorVsJHead
open Go Go.VS
namespace Go.Proofs.YtfemncfhiihckaaDoor
set_option linter.unusedVariables false
set_option linter.unusedSimpArgs false
set_option maxRecDepth 20000
set_option maxHeartbeats 4000000
abbrev trueB : List UInt8 := [116, 114, 117, 101]
abbrev falseB : List UInt8 := [102, 97, 108, 115, 101]
abbrev nullB : List UInt8 := [110, 117, 108, 108]
def wordS (s : RJ) : JN × RJ :=
  if (s.b.drop s.at_).take 4 = trueB then (⟨5, [], [], []⟩, { s with at_ := s.at_ + 4 })
  else if (s.b.drop s.at_).take 5 = falseB then (⟨6, [], [], []⟩, { s with at_ := s.at_ + 5 })
  else if (s.b.drop s.at_).take 4 = nullB then (⟨7, [], [], []⟩, { s with at_ := s.at_ + 4 })
  else (⟨0, [], [], []⟩, s.fail 11)
def k46_VsJWord : List Nat := [0,2,4,5,9,10,11,12,50]
def a46_5_VsJWord : List Nat := [0,0,2,6,14,30,0,64,192,448,1022,2047,4095,8191,16383,32767,65535,8191,139263,401407,925695,8191,2105343,6299647,14688255,8191,65019903,134217727,268435455,8191,536879103,2147483647,4294967295]
def o46_5_VsJWord : List Nat := [0,1,2,3,4,5,6,7,8,9,10,11,12,13,14,15,16,17,18,19,20,21,22,23,24,25,26,27,28,29,30,31,32]
attribute [go_sem] k46_VsJWord a46_5_VsJWord o46_5_VsJWord
theorem f46_ok (s : RJ) (nb : Bool) (ha : s.b.length ≤ 1000000) (hat : s.at_ ≤ s.b.length) : CallsB Tryd.prog 46 [.ptr 1000000 0] [s.cells nb (4, 0)] (wordS s).1.av [(wordS s).2.cells nb (3, 0)] := by
  have c33 := f33_ok s nb 11
  unfold wordS
  obtain ⟨b, at_, deep, nodes, err⟩ := s
  simp only at ha hat c33 ⊢
  have m4 : ((at_ : Int) + 4).toNat = at_ + 4 := by omega
  have m5 : ((at_ : Int) + 5).toNat = at_ + 5 := by omega
  have l4 : ((b.drop at_).take 4).length = 4 ↔ 4 ≤ b.length - at_ := by rw [List.length_take, List.length_drop]; omega
  have l5 : ((b.drop at_).take 5).length = 5 ↔ 5 ≤ b.length - at_ := by rw [List.length_take, List.length_drop]; omega
  have e4 : (b.drop at_).take (at_ + 4 - at_) = (b.drop at_).take 4 := by rw [Nat.add_sub_cancel_left]
  have e5 : (b.drop at_).take (at_ + 5 - at_) = (b.drop at_).take 5 := by rw [Nat.add_sub_cancel_left]
  generalize (b.drop at_).take 4 = t4 at *
  generalize (b.drop at_).take 5 = t5 at *
  generalize RJ.fail ⟨b, at_, deep, nodes, err⟩ 11 = F at *
  have a4 : (at_ : Int) + 4 = ((at_ + 4 : Nat) : Int) := by omega
  have a5 : (at_ : Int) + 5 = ((at_ + 5 : Nat) : Int) := by omega
  by_cases h1 : t4 = trueB
  · subst h1
    have := l4.1 rfl
    rw [if_pos rfl]
    refine CallsB.intro Tryd.func46 rfl (by show 1 ≤ 66; decide) ?_
    rintro X hX
    have hn : X.n = 66 := hX
    unfold Tryd.f46
    dsimp only
    rw [entryB11]
    repeat' first
     | with_reducible (first | refine Rl.go (by constructor <;> decide) ?_ | refine AWP.loopT 4 ?_ | refine AWP.unroll 4 ?_)
     | ((with_reducible first | refine hK _ ?_ | refine hK.1 ?_ | refine hK.2 ?_); clear hK K)
     | ((with_reducible refine condS hK (fun hg => ?_) fun hg => ?_) <;> clear hK K <;> (try simp only [hgW] at hg) <;> try (exfalso; omega))
     | ((first | ((with_reducible first | refine Rk.go k46_VsJWord (by constructor) ?_ | refine Rd.go 5 k46_VsJWord a46_5_VsJWord o46_5_VsJWord mixed (by constructor) (by kernel_rfl) (by kernel_rfl) ?_); intro K hK) | with_reducible refine Rr.go [] (by constructor) ?_ | (with_reducible refine guardP_split (fun hg => ?_) fun hg => ?_) <;> (try simp only [hg]) <;> (try simp only [hgW] at hg)) <;> simp -implicitDefEqProofs only [RJ.cells, JN.av, m4, e4, a4, hn, go_sem, simprocAttr] <;> try (simp (disch := omega) only [wrW]; try simp -implicitDefEqProofs only [RJ.cells, JN.av, m4, e4, a4, hn, go_sem, simprocAttr]))
     | with_reducible refine And.intro (by first | omega | (simp only [hgW]; omega)) ?_
     | (exfalso; omega)
  rw [if_neg h1]
  have b1 : (t4 == trueB) = false := by simpa using h1
  by_cases h2 : t5 = falseB
  · subst h2
    have := l5.1 rfl
    rw [if_pos rfl]
    refine CallsB.intro Tryd.func46 rfl (by show 1 ≤ 66; decide) ?_
    rintro X hX
    have hn : X.n = 66 := hX
    unfold Tryd.f46
    dsimp only
    rw [entryB11]
    repeat' first
     | with_reducible (first | refine Rl.go (by constructor <;> decide) ?_ | refine AWP.loopT 4 ?_ | refine AWP.unroll 4 ?_)
     | ((with_reducible first | refine hK _ ?_ | refine hK.1 ?_ | refine hK.2 ?_); clear hK K)
     | ((with_reducible refine condS hK (fun hg => ?_) fun hg => ?_) <;> clear hK K <;> (try simp only [hgW] at hg) <;> try (exfalso; omega))
     | ((first | ((with_reducible first | refine Rk.go k46_VsJWord (by constructor) ?_ | refine Rd.go 5 k46_VsJWord a46_5_VsJWord o46_5_VsJWord mixed (by constructor) (by kernel_rfl) (by kernel_rfl) ?_); intro K hK) | with_reducible refine Rr.go [] (by constructor) ?_ | (with_reducible refine guardP_split (fun hg => ?_) fun hg => ?_) <;> (try simp only [hg]) <;> (try simp only [hgW] at hg)) <;> simp -implicitDefEqProofs only [RJ.cells, JN.av, m4, m5, e4, e5, a5, b1, hn, go_sem, simprocAttr] <;> try (simp (disch := omega) only [wrW]; try simp -implicitDefEqProofs only [RJ.cells, JN.av, m4, m5, e4, e5, a5, b1, hn, go_sem, simprocAttr]))
     | with_reducible refine And.intro (by first | omega | (simp only [hgW]; omega)) ?_
     | (exfalso; omega)
  rw [if_neg h2]
  have b2 : (t5 == falseB) = false := by simpa using h2
  by_cases h3 : t4 = nullB
  · subst h3
    have := l4.1 rfl
    rw [if_pos rfl]
    refine CallsB.intro Tryd.func46 rfl (by show 1 ≤ 66; decide) ?_
    rintro X hX
    have hn : X.n = 66 := hX
    unfold Tryd.f46
    dsimp only
    rw [entryB11]
    repeat' first
     | with_reducible (first | refine Rl.go (by constructor <;> decide) ?_ | refine AWP.loopT 4 ?_ | refine AWP.unroll 4 ?_)
     | ((with_reducible first | refine hK _ ?_ | refine hK.1 ?_ | refine hK.2 ?_); clear hK K)
     | ((with_reducible refine condS hK (fun hg => ?_) fun hg => ?_) <;> clear hK K <;> (try simp only [hgW] at hg) <;> try (exfalso; omega))
     | ((first | ((with_reducible first | refine Rk.go k46_VsJWord (by constructor) ?_ | refine Rd.go 5 k46_VsJWord a46_5_VsJWord o46_5_VsJWord mixed (by constructor) (by kernel_rfl) (by kernel_rfl) ?_); intro K hK) | with_reducible refine Rr.go [] (by constructor) ?_ | (with_reducible refine guardP_split (fun hg => ?_) fun hg => ?_) <;> (try simp only [hg]) <;> (try simp only [hgW] at hg)) <;> simp -implicitDefEqProofs only [RJ.cells, JN.av, m4, m5, e4, e5, a4, b1, b2, hn, go_sem, simprocAttr] <;> try (simp (disch := omega) only [wrW]; try simp -implicitDefEqProofs only [RJ.cells, JN.av, m4, m5, e4, e5, a4, b1, b2, hn, go_sem, simprocAttr]))
     | with_reducible refine And.intro (by first | omega | (simp only [hgW]; omega)) ?_
     | (exfalso; omega)
  rw [if_neg h3]
  have b3 : (t4 == nullB) = false := by simpa using h3
  obtain ⟨Fb, Fa, Fd, Fn, Fe⟩ := F
  by_cases g4 : 4 ≤ b.length - at_
  · by_cases g5 : 5 ≤ b.length - at_
    · refine CallsB.intro Tryd.func46 rfl (by show 1 ≤ 66; decide) ?_
      rintro X hX
      have hn : X.n = 66 := hX
      unfold Tryd.f46
      dsimp only
      rw [entryB11]
      repeat' first
       | with_reducible (first | refine Rl.go (by constructor <;> decide) ?_ | refine AWP.loopT 4 ?_ | refine AWP.unroll 4 ?_)
       | ((with_reducible first | refine hK _ ?_ | refine hK.1 ?_ | refine hK.2 ?_); clear hK K)
       | ((with_reducible refine condS hK (fun hg => ?_) fun hg => ?_) <;> clear hK K <;> (try simp only [hgW] at hg) <;> try (exfalso; omega))
       | ((first | ((with_reducible first | refine Rk.go k46_VsJWord (by constructor) ?_ | refine Rd.go 5 k46_VsJWord a46_5_VsJWord o46_5_VsJWord mixed (by constructor) (by kernel_rfl) (by kernel_rfl) ?_); intro K hK) | with_reducible refine Rr.go [] (by constructor) ?_ | (with_reducible refine guardP_split (fun hg => ?_) fun hg => ?_) <;> (try simp only [hg]) <;> (try simp only [hgW] at hg) | (with_reducible refine callE_B3 c33 ?_)) <;> simp -implicitDefEqProofs only [eqOk_true, RJ.cells, JN.av, m4, m5, e4, e5, b1, b2, b3, hn, go_sem, simprocAttr] <;> try (simp (disch := omega) only [wrW]; try simp -implicitDefEqProofs only [RJ.cells, JN.av, m4, m5, e4, e5, b1, b2, b3, hn, go_sem, simprocAttr]))
       | with_reducible refine And.intro (by first | omega | (simp only [hgW]; omega)) ?_
       | (exfalso; omega)
    · refine CallsB.intro Tryd.func46 rfl (by show 1 ≤ 66; decide) ?_
      rintro X hX
      have hn : X.n = 66 := hX
      unfold Tryd.f46
      dsimp only
      rw [entryB11]
      repeat' first
       | with_reducible (first | refine Rl.go (by constructor <;> decide) ?_ | refine AWP.loopT 4 ?_ | refine AWP.unroll 4 ?_)
       | ((with_reducible first | refine hK _ ?_ | refine hK.1 ?_ | refine hK.2 ?_); clear hK K)
       | ((with_reducible refine condS hK (fun hg => ?_) fun hg => ?_) <;> clear hK K <;> (try simp only [hgW] at hg) <;> try (exfalso; omega))
       | ((first | ((with_reducible first | refine Rk.go k46_VsJWord (by constructor) ?_ | refine Rd.go 5 k46_VsJWord a46_5_VsJWord o46_5_VsJWord mixed (by constructor) (by kernel_rfl) (by kernel_rfl) ?_); intro K hK) | with_reducible refine Rr.go [] (by constructor) ?_ | (with_reducible refine guardP_split (fun hg => ?_) fun hg => ?_) <;> (try simp only [hg]) <;> (try simp only [hgW] at hg) | (with_reducible refine callE_B3 c33 ?_)) <;> simp -implicitDefEqProofs only [eqOk_true, RJ.cells, JN.av, m4, m5, e4, e5, b1, b2, b3, hn, go_sem, simprocAttr] <;> try (simp (disch := omega) only [wrW]; try simp -implicitDefEqProofs only [RJ.cells, JN.av, m4, m5, e4, e5, b1, b2, b3, hn, go_sem, simprocAttr]))
       | with_reducible refine And.intro (by first | omega | (simp only [hgW]; omega)) ?_
       | (exfalso; omega)
  · refine CallsB.intro Tryd.func46 rfl (by show 1 ≤ 66; decide) ?_
    rintro X hX
    have hn : X.n = 66 := hX
    unfold Tryd.f46
    dsimp only
    rw [entryB11]
    repeat' first
     | with_reducible (first | refine Rl.go (by constructor <;> decide) ?_ | refine AWP.loopT 4 ?_ | refine AWP.unroll 4 ?_)
     | ((with_reducible first | refine hK _ ?_ | refine hK.1 ?_ | refine hK.2 ?_); clear hK K)
     | ((with_reducible refine condS hK (fun hg => ?_) fun hg => ?_) <;> clear hK K <;> (try simp only [hgW] at hg) <;> try (exfalso; omega))
     | ((first | ((with_reducible first | refine Rk.go k46_VsJWord (by constructor) ?_ | refine Rd.go 5 k46_VsJWord a46_5_VsJWord o46_5_VsJWord mixed (by constructor) (by kernel_rfl) (by kernel_rfl) ?_); intro K hK) | with_reducible refine Rr.go [] (by constructor) ?_ | (with_reducible refine guardP_split (fun hg => ?_) fun hg => ?_) <;> (try simp only [hg]) <;> (try simp only [hgW] at hg) | (with_reducible refine callE_B3 c33 ?_)) <;> simp -implicitDefEqProofs only [eqOk_true, RJ.cells, JN.av, m4, m5, e4, e5, b1, b2, b3, hn, go_sem, simprocAttr] <;> try (simp (disch := omega) only [wrW]; try simp -implicitDefEqProofs only [RJ.cells, JN.av, m4, m5, e4, e5, b1, b2, b3, hn, go_sem, simprocAttr]))
     | with_reducible refine And.intro (by first | omega | (simp only [hgW]; omega)) ?_
     | (exfalso; omega)
end Go.Proofs.YtfemncfhiihckaaDoor
