/- What the small functions of the document's reader come to. -/
import Derived.Test.YtfemncfhiihckaaDoorVsJVal2
open Go Go.VS
namespace Go.Proofs.YtfemncfhiihckaaDoor
set_option linter.unusedVariables false
set_option linter.unusedSimpArgs false
set_option maxRecDepth 20000
set_option maxHeartbeats 4000000
def k41_VsKHead : List Nat := [0,1,8]
attribute [go_sem] k41_VsKHead
theorem f41_ok (s : RJ) (nb : Bool) (e : Nat) : CallsB Tryd.prog 41 [.ptr 1000000 0, .int .i64 (e : Int)] [s.cells nb (4, 0)] (.tup []) [(s.fail e).cells nb (3, 0)] := by
  obtain ⟨b, at_, deep, nodes, err⟩ := s
  by_cases he : err = 0
  · subst he
    have e1 : (RJ.mk b at_ deep nodes 0).fail e = ⟨b, at_, deep, nodes, e⟩ := rfl
    rw [e1]
    refine CallsB.intro Tryd.func41 rfl (by show 2 ≤ 13; decide) ?_
    rintro X hX
    have hn : X.n = 13 := hX
    unfold Tryd.f41
    dsimp only
    rw [entryB21]
    repeat' first
     | with_reducible refine Rl.go (by constructor <;> decide) ?_
     | ((with_reducible first | refine hK _ ?_ | refine hK.1 ?_ | refine hK.2 ?_); clear hK K)
     | ((with_reducible refine condS hK (fun hg => ?_) fun hg => ?_) <;> clear hK K <;> (try simp only [hgW] at hg) <;> try (exfalso; omega))
     | ((first | ((with_reducible first | refine Rk.go k41_VsKHead (by constructor) ?_); intro K hK) | with_reducible refine Rr.go [] (by constructor) ?_ | (with_reducible refine guardP_split (fun hg => ?_) fun hg => ?_) <;> (try simp only [hg]) <;> (try simp only [hgW] at hg)) <;> simp -implicitDefEqProofs only [RJ.cells, hn, go_sem, simprocAttr] <;> try (simp (disch := omega) only [wrW]; try simp -implicitDefEqProofs only [RJ.cells, hn, go_sem, simprocAttr]))
     | with_reducible refine And.intro (by first | omega | (simp only [hgW]; omega)) ?_
     | (exfalso; omega)
  · have e1 : (RJ.mk b at_ deep nodes err).fail e = ⟨b, at_, deep, nodes, err⟩ := by unfold RJ.fail; rw [if_neg he]
    rw [e1]
    refine CallsB.intro Tryd.func41 rfl (by show 2 ≤ 13; decide) ?_
    rintro X hX
    have hn : X.n = 13 := hX
    unfold Tryd.f41
    dsimp only
    rw [entryB21]
    repeat' first
     | with_reducible refine Rl.go (by constructor <;> decide) ?_
     | ((with_reducible first | refine hK _ ?_ | refine hK.1 ?_ | refine hK.2 ?_); clear hK K)
     | ((with_reducible refine condS hK (fun hg => ?_) fun hg => ?_) <;> clear hK K <;> (try simp only [hgW] at hg) <;> try (exfalso; omega))
     | ((first | ((with_reducible first | refine Rk.go k41_VsKHead (by constructor) ?_); intro K hK) | with_reducible refine Rr.go [] (by constructor) ?_ | (with_reducible refine guardP_split (fun hg => ?_) fun hg => ?_) <;> (try simp only [hg]) <;> (try simp only [hgW] at hg)) <;> simp -implicitDefEqProofs only [RJ.cells, he, hn, go_sem, simprocAttr] <;> try (simp (disch := omega) only [wrW]; try simp -implicitDefEqProofs only [RJ.cells, he, hn, go_sem, simprocAttr]))
     | with_reducible refine And.intro (by first | omega | (simp only [hgW]; omega)) ?_
     | (exfalso; omega)
def blankS (s : RJ) : RJ := { s with at_ := nextAt s.b s.at_ }
def k40_VsKHead : List Nat := [0,63]
def a40_0_VsKHead : List Nat := [0,1,3,7,0,16,48,112,240,511,1023,2047,4095,8191,16383,2047,34815,100351,231423,524287,1048575,2097151,4194303,8388607,16777215,33554431,67108863,8388607,142606335,411041791,947912703,2147483647,4294967295,8589934591,17179869183,34359738367,68719476735,137438953471,274877906943,549755813887,68719476735,1168231104511,3367254360063,7765300871167,17592186044415,35184372088831,70368744177663,140737488355327,281474976710655,562949953421311,1125899906842623,2251799813685247,4503599627370495,562949953421311,9570149208162303,27584547717644287,63613344736608255,144115188075855871,288230376151711743,576460752303423487,1152921504606846975,2305843009213693951]
def o40_0_VsKHead : List Nat := [0,1,2,3,4,5,6,7,8,9,10,11,12,13,14,15,16,17,18,19,20,21,22,23,24,25,26,27,28,29,30,31,32,33,34,35,36,37,38,39,40,41,42,43,44,45,46,47,48,49,50,51,52,53,54,55,56,57,58,59,60,61]
attribute [go_sem] k40_VsKHead a40_0_VsKHead o40_0_VsKHead
theorem f40_ok (s : RJ) (nb : Bool) (h : OkJ s) : CallsB Tryd.prog 40 [.ptr 1000000 0] [s.cells nb (4, 0)] (.tup []) [(blankS s).cells nb (3, 0)] := by
  obtain ⟨b, at_, deep, nodes, err⟩ := s
  obtain ⟨g1, g2, g3⟩ := h
  unfold blankS
  simp only at g1 g2 g3 ⊢
  obtain ⟨R, hR⟩ : ∃ R, nextAt b at_ = R := ⟨_, rfl⟩
  rw [hR]
  refine CallsB.intro Tryd.func40 rfl (by show 1 ≤ 72; decide) ?_
  rintro X hX
  have hn : X.n = 72 := hX
  unfold Tryd.f40
  dsimp only
  rw [entryB11]
  repeat' first
   | with_reducible refine Rl.go (by constructor <;> decide) ?_
   | ((with_reducible first | refine hK _ ?_ | refine hK.1 ?_ | refine hK.2 ?_); clear hK K)
   | ((with_reducible refine condS hK (fun hg => ?_) fun hg => ?_) <;> clear hK K <;> (try simp only [hgW] at hg) <;> try (exfalso; omega))
   | ((first | ((with_reducible first | refine Rk.go k40_VsKHead (by constructor) ?_ | refine Rd.go 0 k40_VsKHead a40_0_VsKHead o40_0_VsKHead mixed (by constructor) (by kernel_rfl) (by kernel_rfl) ?_); intro K hK) | with_reducible refine Rr.go [] (by constructor) ?_ | (with_reducible refine guardP_split (fun hg => ?_) fun hg => ?_) <;> (try simp only [hg]) <;> (try simp only [hgW] at hg)) <;> simp -implicitDefEqProofs only [RJ.cells, hn, go_sem, simprocAttr] <;> try (simp (disch := omega) only [wrW]; try simp -implicitDefEqProofs only [RJ.cells, hn, go_sem, simprocAttr]))
   | with_reducible refine And.intro (by first | omega | (simp only [hgW]; omega)) ?_
   | (exfalso; omega)
  refine AWP.loopX [0] [] (fun i : Nat => St.mk (lk [(0, .ptr 1000000 0)]) (lkB [(1000000, (RJ.mk b i deep nodes err).cells nb (4, 0))]) (hasS []) (hasS []) (hasN []) (lkR []))
    (fun i => i ≤ b.length ∧ nextAt b i = R) (fun i => b.length - i) at_ ?_ ⟨g1, hR⟩ ?_
  · simp -implicitDefEqProofs only [RJ.cells, hn, go_sem, simprocAttr]
    try rfl
  rintro i ⟨hi, hn⟩
  have e2 : (i : Int) + 1 = ((i + 1 : Nat) : Int) := by omega
  by_cases hl : i = b.length
  · subst hl
    rw [nextAt_end _ _ (Nat.le_refl _)] at hn
    subst hn
    repeat' first
     | with_reducible refine Rl.go (by constructor <;> decide) ?_
     | ((with_reducible first | refine hK _ ?_ | refine hK.1 ?_ | refine hK.2 ?_); clear hK K)
     | ((with_reducible refine condS hK (fun hg => ?_) fun hg => ?_) <;> clear hK K <;> (try simp only [hgW] at hg) <;> try (exfalso; omega))
     | ((first | ((with_reducible first | refine Rk.go k40_VsKHead (by constructor) ?_ | refine Rd.go 0 k40_VsKHead a40_0_VsKHead o40_0_VsKHead mixed (by constructor) (by kernel_rfl) (by kernel_rfl) ?_); intro K hK) | with_reducible refine Rr.go [] (by constructor) ?_ | (with_reducible refine guardP_split (fun hg => ?_) fun hg => ?_) <;> (try simp only [hg]) <;> (try simp only [hgW] at hg)) <;> simp -implicitDefEqProofs only [RJ.cells, hn, go_sem, simprocAttr] <;> try (simp (disch := omega) only [wrW]; try simp -implicitDefEqProofs only [RJ.cells, hn, go_sem, simprocAttr]))
     | with_reducible refine And.intro (by first | omega | (simp only [hgW]; omega)) ?_
     | (exfalso; omega)
  · obtain ⟨c, hc⟩ : ∃ c, b.getD i default = c := ⟨_, rfl⟩
    have hct := c.toNat_lt
    by_cases hb : blank c = true
    · rw [nextAt_step b i (by omega) (by rw [hc]; exact hb)] at hn
      have hcc : c.toNat = 32 ∨ c.toNat = 9 ∨ c.toNat = 10 ∨ c.toNat = 13 := by
        simp only [blank, Bool.or_eq_true, beq_iff_eq] at hb
        rcases hb with ((rfl | rfl) | rfl) | rfl <;> simp
      rcases hcc with h | h | h | h
      all_goals have hci : (c.toNat : Int) = _ := congrArg (fun n : Nat => (n : Int)) h
      all_goals simp only [Int.cast_ofNat_Int] at hci
      · skip
        repeat' first
         | with_reducible refine Rl.go (by constructor <;> decide) ?_
         | ((with_reducible first | refine hK _ ?_ | refine hK.1 ?_ | refine hK.2 ?_); clear hK K)
         | ((with_reducible refine condS hK (fun hg => ?_) fun hg => ?_) <;> clear hK K <;> (try simp only [hgW] at hg) <;> try (exfalso; omega))
         | ((first | ((with_reducible first | refine Rk.go k40_VsKHead (by constructor) ?_ | refine Rd.go 0 k40_VsKHead a40_0_VsKHead o40_0_VsKHead mixed (by constructor) (by kernel_rfl) (by kernel_rfl) ?_); intro K hK) | with_reducible refine Rr.go [] (by constructor) ?_ | (with_reducible refine guardP_split (fun hg => ?_) fun hg => ?_) <;> (try simp only [hg]) <;> (try simp only [hgW] at hg)) <;> simp -implicitDefEqProofs only [RJ.cells, hc, hci, u8, hn, go_sem, simprocAttr] <;> try (simp (disch := omega) only [wrW]; try simp -implicitDefEqProofs only [RJ.cells, hc, hci, u8, hn, go_sem, simprocAttr]))
         | with_reducible refine And.intro (by first | omega | (simp only [hgW]; omega)) ?_
         | (exfalso; omega)
        refine ⟨i + 1, ?_, ⟨by omega, hn⟩, by omega⟩
        rw [e2]
        simp -implicitDefEqProofs only [RJ.cells, hn, go_sem, simprocAttr]
        try rfl
      · skip
        repeat' first
         | with_reducible refine Rl.go (by constructor <;> decide) ?_
         | ((with_reducible first | refine hK _ ?_ | refine hK.1 ?_ | refine hK.2 ?_); clear hK K)
         | ((with_reducible refine condS hK (fun hg => ?_) fun hg => ?_) <;> clear hK K <;> (try simp only [hgW] at hg) <;> try (exfalso; omega))
         | ((first | ((with_reducible first | refine Rk.go k40_VsKHead (by constructor) ?_ | refine Rd.go 0 k40_VsKHead a40_0_VsKHead o40_0_VsKHead mixed (by constructor) (by kernel_rfl) (by kernel_rfl) ?_); intro K hK) | with_reducible refine Rr.go [] (by constructor) ?_ | (with_reducible refine guardP_split (fun hg => ?_) fun hg => ?_) <;> (try simp only [hg]) <;> (try simp only [hgW] at hg)) <;> simp -implicitDefEqProofs only [RJ.cells, hc, hci, u8, hn, go_sem, simprocAttr] <;> try (simp (disch := omega) only [wrW]; try simp -implicitDefEqProofs only [RJ.cells, hc, hci, u8, hn, go_sem, simprocAttr]))
         | with_reducible refine And.intro (by first | omega | (simp only [hgW]; omega)) ?_
         | (exfalso; omega)
        refine ⟨i + 1, ?_, ⟨by omega, hn⟩, by omega⟩
        rw [e2]
        simp -implicitDefEqProofs only [RJ.cells, hn, go_sem, simprocAttr]
        try rfl
      · skip
        repeat' first
         | with_reducible refine Rl.go (by constructor <;> decide) ?_
         | ((with_reducible first | refine hK _ ?_ | refine hK.1 ?_ | refine hK.2 ?_); clear hK K)
         | ((with_reducible refine condS hK (fun hg => ?_) fun hg => ?_) <;> clear hK K <;> (try simp only [hgW] at hg) <;> try (exfalso; omega))
         | ((first | ((with_reducible first | refine Rk.go k40_VsKHead (by constructor) ?_ | refine Rd.go 0 k40_VsKHead a40_0_VsKHead o40_0_VsKHead mixed (by constructor) (by kernel_rfl) (by kernel_rfl) ?_); intro K hK) | with_reducible refine Rr.go [] (by constructor) ?_ | (with_reducible refine guardP_split (fun hg => ?_) fun hg => ?_) <;> (try simp only [hg]) <;> (try simp only [hgW] at hg)) <;> simp -implicitDefEqProofs only [RJ.cells, hc, hci, u8, hn, go_sem, simprocAttr] <;> try (simp (disch := omega) only [wrW]; try simp -implicitDefEqProofs only [RJ.cells, hc, hci, u8, hn, go_sem, simprocAttr]))
         | with_reducible refine And.intro (by first | omega | (simp only [hgW]; omega)) ?_
         | (exfalso; omega)
        refine ⟨i + 1, ?_, ⟨by omega, hn⟩, by omega⟩
        rw [e2]
        simp -implicitDefEqProofs only [RJ.cells, hn, go_sem, simprocAttr]
        try rfl
      · skip
        repeat' first
         | with_reducible refine Rl.go (by constructor <;> decide) ?_
         | ((with_reducible first | refine hK _ ?_ | refine hK.1 ?_ | refine hK.2 ?_); clear hK K)
         | ((with_reducible refine condS hK (fun hg => ?_) fun hg => ?_) <;> clear hK K <;> (try simp only [hgW] at hg) <;> try (exfalso; omega))
         | ((first | ((with_reducible first | refine Rk.go k40_VsKHead (by constructor) ?_ | refine Rd.go 0 k40_VsKHead a40_0_VsKHead o40_0_VsKHead mixed (by constructor) (by kernel_rfl) (by kernel_rfl) ?_); intro K hK) | with_reducible refine Rr.go [] (by constructor) ?_ | (with_reducible refine guardP_split (fun hg => ?_) fun hg => ?_) <;> (try simp only [hg]) <;> (try simp only [hgW] at hg)) <;> simp -implicitDefEqProofs only [RJ.cells, hc, hci, u8, hn, go_sem, simprocAttr] <;> try (simp (disch := omega) only [wrW]; try simp -implicitDefEqProofs only [RJ.cells, hc, hci, u8, hn, go_sem, simprocAttr]))
         | with_reducible refine And.intro (by first | omega | (simp only [hgW]; omega)) ?_
         | (exfalso; omega)
        refine ⟨i + 1, ?_, ⟨by omega, hn⟩, by omega⟩
        rw [e2]
        simp -implicitDefEqProofs only [RJ.cells, hn, go_sem, simprocAttr]
        try rfl
    · rw [nextAt_stop b i (by omega) (by rw [hc]; simpa using hb)] at hn
      subst hn
      have n1 : ¬ (c.toNat : Int) = 32 := fun h => hb (by have : c = 32 := UInt8.toNat_inj.1 (by simp; omega); rw [this]; rfl)
      have n2 : ¬ (c.toNat : Int) = 9 := fun h => hb (by have : c = 9 := UInt8.toNat_inj.1 (by simp; omega); rw [this]; rfl)
      have n3 : ¬ (c.toNat : Int) = 10 := fun h => hb (by have : c = 10 := UInt8.toNat_inj.1 (by simp; omega); rw [this]; rfl)
      have n4 : ¬ (c.toNat : Int) = 13 := fun h => hb (by have : c = 13 := UInt8.toNat_inj.1 (by simp; omega); rw [this]; rfl)
      repeat' first
       | with_reducible refine Rl.go (by constructor <;> decide) ?_
       | ((with_reducible first | refine hK _ ?_ | refine hK.1 ?_ | refine hK.2 ?_); clear hK K)
       | ((with_reducible refine condS hK (fun hg => ?_) fun hg => ?_) <;> clear hK K <;> (try simp only [hgW] at hg) <;> try (exfalso; omega))
       | ((first | ((with_reducible first | refine Rk.go k40_VsKHead (by constructor) ?_ | refine Rd.go 0 k40_VsKHead a40_0_VsKHead o40_0_VsKHead mixed (by constructor) (by kernel_rfl) (by kernel_rfl) ?_); intro K hK) | with_reducible refine Rr.go [] (by constructor) ?_ | (with_reducible refine guardP_split (fun hg => ?_) fun hg => ?_) <;> (try simp only [hg]) <;> (try simp only [hgW] at hg)) <;> simp -implicitDefEqProofs only [RJ.cells, hc, n1, n2, n3, n4, u8, hn, go_sem, simprocAttr] <;> try (simp (disch := omega) only [wrW]; try simp -implicitDefEqProofs only [RJ.cells, hc, n1, n2, n3, n4, u8, hn, go_sem, simprocAttr]))
       | with_reducible refine And.intro (by first | omega | (simp only [hgW]; omega)) ?_
       | (exfalso; omega)
def isC (s : RJ) (c : UInt8) : Bool := decide (s.at_ < s.b.length) && decide (s.b.getD s.at_ default = c)
def k51_VsKHead : List Nat := [0,1,4]
def a51_1_VsKHead : List Nat := [0,1,3,7,0,16,48,112,240,511,1023,2047,4095,8191,16383,2047,34815,100351,231423,524287,1048575,2047,4194303,8388607,16777215]
def o51_1_VsKHead : List Nat := [0,1,2,3,4,5,6,7,8,9,10,11,12,13,14,15,16,17,18,19,20,21,22,23,24]
attribute [go_sem] k51_VsKHead a51_1_VsKHead o51_1_VsKHead
theorem f51_ok (s : RJ) (nb : Bool) (h : OkJ s) (c : UInt8) : CallsB Tryd.prog 51 [.ptr 1000000 0, .int .u8 (c.toNat : Int)] [s.cells nb (4, 0)] (.bool (isC s c)) [s.cells nb (3, 0)] := by
  obtain ⟨b, at_, deep, nodes, err⟩ := s
  obtain ⟨g1, g2, g3⟩ := h
  unfold isC
  simp only at g1 g2 g3 ⊢
  by_cases h1 : at_ < b.length
  · obtain ⟨x, hx⟩ : ∃ x, b.getD at_ default = x := ⟨_, rfl⟩
    rw [hx, decide_eq_true h1, Bool.true_and]
    by_cases hxc : x = c
    · subst hxc
      rw [decide_eq_true rfl]
      refine CallsB.intro Tryd.func51 rfl (by show 2 ≤ 29; decide) ?_
      rintro X hX
      have hn : X.n = 29 := hX
      unfold Tryd.f51
      dsimp only
      rw [entryB21]
      repeat' first
       | with_reducible refine Rl.go (by constructor <;> decide) ?_
       | ((with_reducible first | refine hK _ ?_ | refine hK.1 ?_ | refine hK.2 ?_); clear hK K)
       | ((with_reducible refine condS hK (fun hg => ?_) fun hg => ?_) <;> clear hK K <;> (try simp only [hgW] at hg) <;> try (exfalso; omega))
       | ((first | ((with_reducible first | refine Rk.go k51_VsKHead (by constructor) ?_ | refine Rd.go 1 k51_VsKHead a51_1_VsKHead o51_1_VsKHead mixed (by constructor) (by kernel_rfl) (by kernel_rfl) ?_); intro K hK) | with_reducible refine Rr.go [] (by constructor) ?_ | (with_reducible refine guardP_split (fun hg => ?_) fun hg => ?_) <;> (try simp only [hg]) <;> (try simp only [hgW] at hg)) <;> simp -implicitDefEqProofs only [RJ.cells, u8, hx, hn, go_sem, simprocAttr] <;> try (simp (disch := omega) only [wrW]; try simp -implicitDefEqProofs only [RJ.cells, u8, hx, hn, go_sem, simprocAttr]))
       | with_reducible refine And.intro (by first | omega | (simp only [hgW]; omega)) ?_
       | (exfalso; omega)
    · rw [decide_eq_false hxc]
      have hn : decide ((x.toNat : Int) = (c.toNat : Int)) = false := decide_eq_false fun hh => hxc (UInt8.toNat_inj.1 (by omega))
      refine CallsB.intro Tryd.func51 rfl (by show 2 ≤ 29; decide) ?_
      rintro X hX
      have hn : X.n = 29 := hX
      unfold Tryd.f51
      dsimp only
      rw [entryB21]
      repeat' first
       | with_reducible refine Rl.go (by constructor <;> decide) ?_
       | ((with_reducible first | refine hK _ ?_ | refine hK.1 ?_ | refine hK.2 ?_); clear hK K)
       | ((with_reducible refine condS hK (fun hg => ?_) fun hg => ?_) <;> clear hK K <;> (try simp only [hgW] at hg) <;> try (exfalso; omega))
       | ((first | ((with_reducible first | refine Rk.go k51_VsKHead (by constructor) ?_ | refine Rd.go 1 k51_VsKHead a51_1_VsKHead o51_1_VsKHead mixed (by constructor) (by kernel_rfl) (by kernel_rfl) ?_); intro K hK) | with_reducible refine Rr.go [] (by constructor) ?_ | (with_reducible refine guardP_split (fun hg => ?_) fun hg => ?_) <;> (try simp only [hg]) <;> (try simp only [hgW] at hg)) <;> simp -implicitDefEqProofs only [RJ.cells, u8, hx, hn, hn, go_sem, simprocAttr] <;> try (simp (disch := omega) only [wrW]; try simp -implicitDefEqProofs only [RJ.cells, u8, hx, hn, hn, go_sem, simprocAttr]))
       | with_reducible refine And.intro (by first | omega | (simp only [hgW]; omega)) ?_
       | (exfalso; omega)
      exact congrArg AV.bool (decide_eq_false fun hh => hxc (UInt8.toNat_inj.1 (by omega)))
  · rw [decide_eq_false h1, Bool.false_and]
    refine CallsB.intro Tryd.func51 rfl (by show 2 ≤ 29; decide) ?_
    rintro X hX
    have hn : X.n = 29 := hX
    unfold Tryd.f51
    dsimp only
    rw [entryB21]
    repeat' first
     | with_reducible refine Rl.go (by constructor <;> decide) ?_
     | ((with_reducible first | refine hK _ ?_ | refine hK.1 ?_ | refine hK.2 ?_); clear hK K)
     | ((with_reducible refine condS hK (fun hg => ?_) fun hg => ?_) <;> clear hK K <;> (try simp only [hgW] at hg) <;> try (exfalso; omega))
     | ((first | ((with_reducible first | refine Rk.go k51_VsKHead (by constructor) ?_ | refine Rd.go 1 k51_VsKHead a51_1_VsKHead o51_1_VsKHead mixed (by constructor) (by kernel_rfl) (by kernel_rfl) ?_); intro K hK) | with_reducible refine Rr.go [] (by constructor) ?_ | (with_reducible refine guardP_split (fun hg => ?_) fun hg => ?_) <;> (try simp only [hg]) <;> (try simp only [hgW] at hg)) <;> simp -implicitDefEqProofs only [RJ.cells, u8, hn, go_sem, simprocAttr] <;> try (simp (disch := omega) only [wrW]; try simp -implicitDefEqProofs only [RJ.cells, u8, hn, go_sem, simprocAttr]))
     | with_reducible refine And.intro (by first | omega | (simp only [hgW]; omega)) ?_
     | (exfalso; omega)
/-- Are these next? They are taken. -/
def wordP (b : List UInt8) (i : Nat) (w : List UInt8) : Bool × Nat := if (b.drop i).take w.length = w then (true, i + w.length) else (false, i)
def wordC (s : RJ) (w : List UInt8) : Bool × RJ := ((wordP s.b s.at_ w).1, { s with at_ := (wordP s.b s.at_ w).2 })
def k54_VsKHead : List Nat := [0,1,4,5,39]
def a54_2_VsKHead : List Nat := [0,1,3,7,15,0,32,96,224,511,0,2047,4095,8191,16383,32767,65535,8191,139263,401407,925695,8191,2105343,6299647,14688255,8191,65019903,134217727,268435455,8191,1073741823,2147483647]
def o54_2_VsKHead : List Nat := [0,1,2,3,4,5,6,7,8,9,10,11,12,13,14,15,16,17,18,19,20,21,22,23,24,25,26,27,28,29,30,31]
attribute [go_sem] k54_VsKHead a54_2_VsKHead o54_2_VsKHead
theorem f54_ok (s : RJ) (nb : Bool) (h : OkJ s) (w : List UInt8) (hw : w.length ≤ 100) : CallsB Tryd.prog 54 [.ptr 1000000 0, .str w] [s.cells nb (4, 0)] (.bool (wordC s w).1) [(wordC s w).2.cells nb (3, 0)] := by
  obtain ⟨b, at_, deep, nodes, err⟩ := s
  obtain ⟨g1, g2, g3⟩ := h
  unfold wordC wordP
  simp only at g1 g2 g3 ⊢
  have ee : ∀ k : Nat, (b.drop at_).take (at_ + k - at_) = (b.drop at_).take k := fun k => by rw [Nat.add_sub_cancel_left]
  have mm : ((at_ : Int) + (w.length : Int)).toNat = at_ + w.length := by omega
  have aa : (at_ : Int) + (w.length : Int) = ((at_ + w.length : Nat) : Int) := by omega
  by_cases hl : at_ + w.length ≤ b.length
  · by_cases he : (b.drop at_).take w.length = w
    · rw [if_pos he]
      refine CallsB.intro Tryd.func54 rfl (by show 2 ≤ 49; decide) ?_
      rintro X hX
      have hn : X.n = 49 := hX
      unfold Tryd.f54
      dsimp only
      rw [entryB21]
      repeat' first
       | with_reducible refine Rl.go (by constructor <;> decide) ?_
       | ((with_reducible first | refine hK _ ?_ | refine hK.1 ?_ | refine hK.2 ?_); clear hK K)
       | ((with_reducible refine condS hK (fun hg => ?_) fun hg => ?_) <;> clear hK K <;> (try simp only [hgW] at hg) <;> try (exfalso; omega))
       | ((first | ((with_reducible first | refine Rk.go k54_VsKHead (by constructor) ?_ | refine Rd.go 2 k54_VsKHead a54_2_VsKHead o54_2_VsKHead mixed (by constructor) (by kernel_rfl) (by kernel_rfl) ?_); intro K hK) | with_reducible refine Rr.go [] (by constructor) ?_ | (with_reducible refine guardP_split (fun hg => ?_) fun hg => ?_) <;> (try simp only [hg]) <;> (try simp only [hgW] at hg)) <;> simp -implicitDefEqProofs only [RJ.cells, u8, mm, ee, aa, he, hn, go_sem, simprocAttr] <;> try (simp (disch := omega) only [wrW]; try simp -implicitDefEqProofs only [RJ.cells, u8, mm, ee, aa, he, hn, go_sem, simprocAttr]))
       | with_reducible refine And.intro (by first | omega | (simp only [hgW]; omega)) ?_
       | (exfalso; omega)
    · rw [if_neg he]
      have hb : ((b.drop at_).take w.length == w) = false := by simpa using he
      refine CallsB.intro Tryd.func54 rfl (by show 2 ≤ 49; decide) ?_
      rintro X hX
      have hn : X.n = 49 := hX
      unfold Tryd.f54
      dsimp only
      rw [entryB21]
      repeat' first
       | with_reducible refine Rl.go (by constructor <;> decide) ?_
       | ((with_reducible first | refine hK _ ?_ | refine hK.1 ?_ | refine hK.2 ?_); clear hK K)
       | ((with_reducible refine condS hK (fun hg => ?_) fun hg => ?_) <;> clear hK K <;> (try simp only [hgW] at hg) <;> try (exfalso; omega))
       | ((first | ((with_reducible first | refine Rk.go k54_VsKHead (by constructor) ?_ | refine Rd.go 2 k54_VsKHead a54_2_VsKHead o54_2_VsKHead mixed (by constructor) (by kernel_rfl) (by kernel_rfl) ?_); intro K hK) | with_reducible refine Rr.go [] (by constructor) ?_ | (with_reducible refine guardP_split (fun hg => ?_) fun hg => ?_) <;> (try simp only [hg]) <;> (try simp only [hgW] at hg)) <;> simp -implicitDefEqProofs only [RJ.cells, u8, mm, ee, hb, hn, go_sem, simprocAttr] <;> try (simp (disch := omega) only [wrW]; try simp -implicitDefEqProofs only [RJ.cells, u8, mm, ee, hb, hn, go_sem, simprocAttr]))
       | with_reducible refine And.intro (by first | omega | (simp only [hgW]; omega)) ?_
       | (exfalso; omega)
  · have he : ¬ (b.drop at_).take w.length = w := fun h => by
      have := congrArg List.length h
      rw [List.length_take, List.length_drop] at this
      omega
    rw [if_neg he]
    refine CallsB.intro Tryd.func54 rfl (by show 2 ≤ 49; decide) ?_
    rintro X hX
    have hn : X.n = 49 := hX
    unfold Tryd.f54
    dsimp only
    rw [entryB21]
    repeat' first
     | with_reducible refine Rl.go (by constructor <;> decide) ?_
     | ((with_reducible first | refine hK _ ?_ | refine hK.1 ?_ | refine hK.2 ?_); clear hK K)
     | ((with_reducible refine condS hK (fun hg => ?_) fun hg => ?_) <;> clear hK K <;> (try simp only [hgW] at hg) <;> try (exfalso; omega))
     | ((first | ((with_reducible first | refine Rk.go k54_VsKHead (by constructor) ?_ | refine Rd.go 2 k54_VsKHead a54_2_VsKHead o54_2_VsKHead mixed (by constructor) (by kernel_rfl) (by kernel_rfl) ?_); intro K hK) | with_reducible refine Rr.go [] (by constructor) ?_ | (with_reducible refine guardP_split (fun hg => ?_) fun hg => ?_) <;> (try simp only [hg]) <;> (try simp only [hgW] at hg)) <;> simp -implicitDefEqProofs only [RJ.cells, hn, go_sem, simprocAttr] <;> try (simp (disch := omega) only [wrW]; try simp -implicitDefEqProofs only [RJ.cells, hn, go_sem, simprocAttr]))
     | with_reducible refine And.intro (by first | omega | (simp only [hgW]; omega)) ?_
     | (exfalso; omega)
def digC (s : RJ) : Nat × RJ := (digAt s.b s.at_ - s.at_, { s with at_ := digAt s.b s.at_ })
def k69_VsKHead : List Nat := [0,2,3,39]
def a69_2_VsKHead : List Nat := [0,1,3,7,0,16,48,112,240,511,1023,2047,4095,8191,16383,2047,34815,100351,231423,524287,1048575,2097151,4194303,8388607,16777215,33554431,67108863,134217727,16777215,285212671,822083583,1895825407,4294967295,8589934591,17179869183,34359738367]
def o69_2_VsKHead : List Nat := [0,1,2,3,4,5,6,7,8,9,10,11,12,13,14,15,16,17,18,19,20,21,22,23,24,25,26,27,28,29,30,31,32,33,34,35]
attribute [go_sem] k69_VsKHead a69_2_VsKHead o69_2_VsKHead
theorem f69_ok (s : RJ) (nb : Bool) (h : OkJ s) : CallsB Tryd.prog 69 [.ptr 1000000 0] [s.cells nb (4, 0)] (.int .i64 ((digC s).1 : Int)) [(digC s).2.cells nb (3, 0)] := by
  obtain ⟨b, at_, deep, nodes, err⟩ := s
  obtain ⟨g1, g2, g3⟩ := h
  unfold digC
  simp only at g1 g2 g3 ⊢
  obtain ⟨R, hR⟩ : ∃ R, digAt b at_ = R := ⟨_, rfl⟩
  rw [hR]
  have hRg := digAt_ge b at_
  refine CallsB.intro Tryd.func69 rfl (by show 1 ≤ 51; decide) ?_
  rintro X hX
  have hn : X.n = 51 := hX
  unfold Tryd.f69
  dsimp only
  rw [entryB11]
  repeat' first
   | with_reducible refine Rl.go (by constructor <;> decide) ?_
   | ((with_reducible first | refine hK _ ?_ | refine hK.1 ?_ | refine hK.2 ?_); clear hK K)
   | ((with_reducible refine condS hK (fun hg => ?_) fun hg => ?_) <;> clear hK K <;> (try simp only [hgW] at hg) <;> try (exfalso; omega))
   | ((first | ((with_reducible first | refine Rk.go k69_VsKHead (by constructor) ?_ | refine Rd.go 2 k69_VsKHead a69_2_VsKHead o69_2_VsKHead mixed (by constructor) (by kernel_rfl) (by kernel_rfl) ?_); intro K hK) | with_reducible refine Rr.go [] (by constructor) ?_ | (with_reducible refine guardP_split (fun hg => ?_) fun hg => ?_) <;> (try simp only [hg]) <;> (try simp only [hgW] at hg)) <;> simp -implicitDefEqProofs only [RJ.cells, hn, go_sem, simprocAttr] <;> try (simp (disch := omega) only [wrW]; try simp -implicitDefEqProofs only [RJ.cells, hn, go_sem, simprocAttr]))
   | with_reducible refine And.intro (by first | omega | (simp only [hgW]; omega)) ?_
   | (exfalso; omega)
  refine AWP.loopX [0, 2, 3] [] (fun i : Nat => St.mk (lk [(0, .ptr 1000000 0), (2, .int .i64 0), (3, .int .i64 ((i - at_ : Nat) : Int))]) (lkB [(1000000, (RJ.mk b i deep nodes err).cells nb (4, 0))]) (hasS []) (hasS []) (hasN []) (lkR []))
    (fun i => at_ ≤ i ∧ i ≤ b.length ∧ digAt b i = R) (fun i => b.length - i) at_ ?_ ⟨Nat.le_refl _, g1, hR⟩ ?_
  · rw [Nat.sub_self]
    simp -implicitDefEqProofs only [RJ.cells, hn, go_sem, simprocAttr]
    try rfl
  rintro i ⟨hai, hi, hd⟩
  have e2 : (i : Int) + 1 = ((i + 1 : Nat) : Int) := by omega
  have e3 : ((i - at_ : Nat) : Int) + 1 = ((i + 1 - at_ : Nat) : Int) := by omega
  by_cases hl : i = b.length
  · subst hl
    rw [digAt_end _ _ (Nat.le_refl _)] at hd
    subst hd
    repeat' first
     | with_reducible refine Rl.go (by constructor <;> decide) ?_
     | ((with_reducible first | refine hK _ ?_ | refine hK.1 ?_ | refine hK.2 ?_); clear hK K)
     | ((with_reducible refine condS hK (fun hg => ?_) fun hg => ?_) <;> clear hK K <;> (try simp only [hgW] at hg) <;> try (exfalso; omega))
     | ((first | ((with_reducible first | refine Rk.go k69_VsKHead (by constructor) ?_ | refine Rd.go 2 k69_VsKHead a69_2_VsKHead o69_2_VsKHead mixed (by constructor) (by kernel_rfl) (by kernel_rfl) ?_); intro K hK) | with_reducible refine Rr.go [] (by constructor) ?_ | (with_reducible refine guardP_split (fun hg => ?_) fun hg => ?_) <;> (try simp only [hg]) <;> (try simp only [hgW] at hg)) <;> simp -implicitDefEqProofs only [RJ.cells, hn, go_sem, simprocAttr] <;> try (simp (disch := omega) only [wrW]; try simp -implicitDefEqProofs only [RJ.cells, hn, go_sem, simprocAttr]))
     | with_reducible refine And.intro (by first | omega | (simp only [hgW]; omega)) ?_
     | (exfalso; omega)
  · obtain ⟨c, hc⟩ : ∃ c, b.getD i default = c := ⟨_, rfl⟩
    have hct := c.toNat_lt
    by_cases hdg : digit c = true
    · rw [digAt_step b i (by omega) (by rw [hc]; exact hdg)] at hd
      simp only [digit, Bool.and_eq_true, decide_eq_true_eq] at hdg
      repeat' first
       | with_reducible refine Rl.go (by constructor <;> decide) ?_
       | ((with_reducible first | refine hK _ ?_ | refine hK.1 ?_ | refine hK.2 ?_); clear hK K)
       | ((with_reducible refine condS hK (fun hg => ?_) fun hg => ?_) <;> clear hK K <;> (try simp only [hgW] at hg) <;> try (exfalso; omega))
       | ((first | ((with_reducible first | refine Rk.go k69_VsKHead (by constructor) ?_ | refine Rd.go 2 k69_VsKHead a69_2_VsKHead o69_2_VsKHead mixed (by constructor) (by kernel_rfl) (by kernel_rfl) ?_); intro K hK) | with_reducible refine Rr.go [] (by constructor) ?_ | (with_reducible refine guardP_split (fun hg => ?_) fun hg => ?_) <;> (try simp only [hg]) <;> (try simp only [hgW] at hg)) <;> simp -implicitDefEqProofs only [RJ.cells, u8, hc, hn, go_sem, simprocAttr] <;> try (simp (disch := omega) only [wrW]; try simp -implicitDefEqProofs only [RJ.cells, u8, hc, hn, go_sem, simprocAttr]))
       | with_reducible refine And.intro (by first | omega | (simp only [hgW]; omega)) ?_
       | (exfalso; omega)
      refine ⟨i + 1, ?_, ⟨by omega, by omega, hd⟩, by omega⟩
      rw [e2, e3]
      simp -implicitDefEqProofs only [RJ.cells, hn, go_sem, simprocAttr]
      try rfl
    · rw [digAt_stop b i (by omega) (by rw [hc]; simpa using hdg)] at hd
      subst hd
      simp only [digit, Bool.and_eq_true, decide_eq_true_eq] at hdg
      by_cases h48 : 48 ≤ c.toNat
      · skip
        repeat' first
         | with_reducible refine Rl.go (by constructor <;> decide) ?_
         | ((with_reducible first | refine hK _ ?_ | refine hK.1 ?_ | refine hK.2 ?_); clear hK K)
         | ((with_reducible refine condS hK (fun hg => ?_) fun hg => ?_) <;> clear hK K <;> (try simp only [hgW] at hg) <;> try (exfalso; omega))
         | ((first | ((with_reducible first | refine Rk.go k69_VsKHead (by constructor) ?_ | refine Rd.go 2 k69_VsKHead a69_2_VsKHead o69_2_VsKHead mixed (by constructor) (by kernel_rfl) (by kernel_rfl) ?_); intro K hK) | with_reducible refine Rr.go [] (by constructor) ?_ | (with_reducible refine guardP_split (fun hg => ?_) fun hg => ?_) <;> (try simp only [hg]) <;> (try simp only [hgW] at hg)) <;> simp -implicitDefEqProofs only [RJ.cells, u8, hc, hn, go_sem, simprocAttr] <;> try (simp (disch := omega) only [wrW]; try simp -implicitDefEqProofs only [RJ.cells, u8, hc, hn, go_sem, simprocAttr]))
         | with_reducible refine And.intro (by first | omega | (simp only [hgW]; omega)) ?_
         | (exfalso; omega)
      · skip
        repeat' first
         | with_reducible refine Rl.go (by constructor <;> decide) ?_
         | ((with_reducible first | refine hK _ ?_ | refine hK.1 ?_ | refine hK.2 ?_); clear hK K)
         | ((with_reducible refine condS hK (fun hg => ?_) fun hg => ?_) <;> clear hK K <;> (try simp only [hgW] at hg) <;> try (exfalso; omega))
         | ((first | ((with_reducible first | refine Rk.go k69_VsKHead (by constructor) ?_ | refine Rd.go 2 k69_VsKHead a69_2_VsKHead o69_2_VsKHead mixed (by constructor) (by kernel_rfl) (by kernel_rfl) ?_); intro K hK) | with_reducible refine Rr.go [] (by constructor) ?_ | (with_reducible refine guardP_split (fun hg => ?_) fun hg => ?_) <;> (try simp only [hg]) <;> (try simp only [hgW] at hg)) <;> simp -implicitDefEqProofs only [RJ.cells, u8, hc, hn, go_sem, simprocAttr] <;> try (simp (disch := omega) only [wrW]; try simp -implicitDefEqProofs only [RJ.cells, u8, hc, hn, go_sem, simprocAttr]))
         | with_reducible refine And.intro (by first | omega | (simp only [hgW]; omega)) ?_
         | (exfalso; omega)
end Go.Proofs.YtfemncfhiihckaaDoor
