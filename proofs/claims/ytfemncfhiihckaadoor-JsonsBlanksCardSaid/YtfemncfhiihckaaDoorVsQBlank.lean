/- The law JsonsBlanks, if two equal lists of nodes are the same. -/
import Derived.Test.YtfemncfhiihckaaDoorVsPParse
import Derived.Test.YtfemncfhiihckaaDoorVsLAwake
open Go Go.VS
namespace Go.Proofs.YtfemncfhiihckaaDoor
set_option linter.unusedVariables false
set_option linter.unusedSimpArgs false
set_option maxRecDepth 20000
set_option maxHeartbeats 4000000
def gapQ : Nat → List UInt8
  | 0 => [32]
  | 1 => [13, 10]
  | _ => [9, 32, 10]
theorem and_callQ {P : Program} {st : St} {d : Option Nat} {f : FuncId} {xs : List AV} {K : St → Prop} {q : Prop} (h : callP P st d f xs K) (h' : q) : callP P st d f xs K ∧ q := ⟨h, h'⟩
def k4_VsQBlank : List Nat := [0,1,2,4,5,6,7,8,9,10,12,29]
def p4_3_VsQBlank : List Nat := []
def a4_3_VsQBlank : List Nat := [0,1,0,0,0,16,56,120,255,511,1023]
def o4_3_VsQBlank : List (List Nat) := [[0,1,3,2,4,5,6,7,8,9,10],[3,0,1,2,4,5,6,7,8,9,10]]
attribute [go_sem] k4_VsQBlank p4_3_VsQBlank a4_3_VsQBlank o4_3_VsQBlank
theorem f4_ok (h18 : ∀ b : List UInt8, CallsP Tryd.prog 18 [.sl none (parseS b).1.isEmpty 4 ((parseS b).1.map JN.av), .sl none (parseS b).1.isEmpty 4 ((parseS b).1.map JN.av)] (.bool true)) (v : GV) (hv : GVok 6 v) (g : UInt8) :
    CallsP Tryd.prog 4 [v.av, .int .u8 (g.toNat : Int)] (.bool true) := by
  obtain ⟨j, hj, hj3⟩ : ∃ j : Nat, (g.toNat : Int) % 3 = (j : Int) ∧ j < 3 := ⟨g.toNat % 3, by omega, by omega⟩
  have hgl : [AV.str [32], AV.str [13, 10], AV.str [9, 32, 10]][j]? = some (AV.str (gapQ j)) := by
    rcases (by omega : j = 0 ∨ j = 1 ∨ j = 2) with rfl | rfl | rfl <;> rfl
  have hgp : (gapQ j).length ≤ 3 ∧ AllB (gapQ j) := by
    rcases (by omega : j = 0 ∨ j = 1 ∨ j = 2) with rfl | rfl | rfl <;> exact ⟨by decide, by unfold AllB gapQ; decide⟩
  have c15a : CallsP Tryd.prog 15 [v.av, .int .i64 5, .str []] (.str (txtS [] 5 v)) := f15_ok [] (by simp) 5 v (by omega) hv
  have c15b : CallsP Tryd.prog 15 [v.av, .int .i64 5, .str (gapQ j)] (.str (txtS (gapQ j) 5 v)) := f15_ok (gapQ j) hgp.1 5 v (by omega) hv
  have ha := txtS_len (gap := []) (by simp) 5 v
  have hb := txtS_len hgp.1 5 v
  have hT5 : lenT 5 = 3823403 := by decide
  have pa := parse_txt (gap := []) (fun _ h => by cases h) 5 (by omega) v
  have pb := parse_txt hgp.2 5 (by omega) v
  have h18' := h18 (txtS (gapQ j) 5 v)
  obtain ⟨A, hA⟩ : ∃ A, txtS [] 5 v = A := ⟨_, rfl⟩
  obtain ⟨B, hB⟩ : ∃ B, txtS (gapQ j) 5 v = B := ⟨_, rfl⟩
  rw [hA] at c15a ha pa
  rw [hB] at c15b hb pb h18'
  rw [hT5] at ha hb
  obtain ⟨k, t, kn, ks⟩ := v
  rw [gav] at c15a c15b ⊢
  by_cases hlen : A.length ≤ 4096 ∧ B.length ≤ 4096
  · have ca := f17_ok A false
    have cb := f17_ok B false
    rw [pa hlen.1] at ca
    rw [pb hlen.2] at cb h18'
    split at ca
    · rename_i hm
      rw [if_pos hm] at cb h18'
      generalize nodesV 5 (.mk k t kn ks) 0 = L at *
      refine CallsP.intro Tryd.func4 rfl (by show 2 ≤ 58; decide) ?_
      rintro X hX
      have hn : X.n = 58 := hX
      unfold Tryd.f4
      dsimp only
      rw [entry2]
      repeat' first
       | (with_reducible refine and_callQ ?_ ?_)
       | with_reducible refine Rl.go (by constructor <;> decide) ?_
       | ((with_reducible first | refine hK _ ?_ | refine hK.1 ?_ | refine hK.2 ?_); clear hK K)
       | ((with_reducible refine condS hK (fun hg => ?_) fun hg => ?_) <;> clear hK K <;> (try simp only [hgW] at hg) <;> try (exfalso; omega))
       | ((first | ((with_reducible first | refine Rk.go k4_VsQBlank (by constructor) ?_ | refine Rm.go 3 k4_VsQBlank p4_3_VsQBlank a4_3_VsQBlank o4_3_VsQBlank mixed (by constructor) (by kernel_rfl) (by kernel_rfl) (by with_unfolding_all rfl) ?_); intro K hK) | with_reducible refine Rr.go [] (by constructor) ?_ | (with_reducible refine guardP_split (fun hg => ?_) fun hg => ?_) <;> (try simp only [hg]) <;> (try simp only [hgW] at hg) | refine Rc.go f14_ok (by constructor) ?_ | refine Rc.go c15a (by constructor) ?_ | refine Rc.go c15b (by constructor) ?_ | refine Rc.go ca (by constructor) ?_ | refine Rc.go cb (by constructor) ?_ | refine Rc.go (h18') (by constructor) ?_) <;> simp -implicitDefEqProofs only [hj, hgl, hn, go_sem, simprocAttr] <;> try (simp (disch := omega) only [wrW]; try simp -implicitDefEqProofs only [hj, hgl, hn, go_sem, simprocAttr]))
       | with_reducible refine And.intro (by first | omega | (simp only [hgW]; omega)) ?_
       | (exfalso; omega)
    · rename_i hm
      rw [if_neg hm] at cb h18'
      refine CallsP.intro Tryd.func4 rfl (by show 2 ≤ 58; decide) ?_
      rintro X hX
      have hn : X.n = 58 := hX
      unfold Tryd.f4
      dsimp only
      rw [entry2]
      repeat' first
       | (with_reducible refine and_callQ ?_ ?_)
       | with_reducible refine Rl.go (by constructor <;> decide) ?_
       | ((with_reducible first | refine hK _ ?_ | refine hK.1 ?_ | refine hK.2 ?_); clear hK K)
       | ((with_reducible refine condS hK (fun hg => ?_) fun hg => ?_) <;> clear hK K <;> (try simp only [hgW] at hg) <;> try (exfalso; omega))
       | ((first | ((with_reducible first | refine Rk.go k4_VsQBlank (by constructor) ?_ | refine Rm.go 3 k4_VsQBlank p4_3_VsQBlank a4_3_VsQBlank o4_3_VsQBlank mixed (by constructor) (by kernel_rfl) (by kernel_rfl) (by with_unfolding_all rfl) ?_); intro K hK) | with_reducible refine Rr.go [] (by constructor) ?_ | (with_reducible refine guardP_split (fun hg => ?_) fun hg => ?_) <;> (try simp only [hg]) <;> (try simp only [hgW] at hg) | refine Rc.go f14_ok (by constructor) ?_ | refine Rc.go c15a (by constructor) ?_ | refine Rc.go c15b (by constructor) ?_ | refine Rc.go ca (by constructor) ?_ | refine Rc.go cb (by constructor) ?_ | refine Rc.go (h18') (by constructor) ?_) <;> simp -implicitDefEqProofs only [hj, hgl, hn, go_sem, simprocAttr] <;> try (simp (disch := omega) only [wrW]; try simp -implicitDefEqProofs only [hj, hgl, hn, go_sem, simprocAttr]))
       | with_reducible refine And.intro (by first | omega | (simp only [hgW]; omega)) ?_
       | (exfalso; omega)
  · refine CallsP.intro Tryd.func4 rfl (by show 2 ≤ 58; decide) ?_
    rintro X hX
    have hn : X.n = 58 := hX
    unfold Tryd.f4
    dsimp only
    rw [entry2]
    repeat' first
     | (with_reducible refine and_callQ ?_ ?_)
     | with_reducible refine Rl.go (by constructor <;> decide) ?_
     | ((with_reducible first | refine hK _ ?_ | refine hK.1 ?_ | refine hK.2 ?_); clear hK K)
     | ((with_reducible refine condS hK (fun hg => ?_) fun hg => ?_) <;> clear hK K <;> (try simp only [hgW] at hg) <;> try (exfalso; omega))
     | ((first | ((with_reducible first | refine Rk.go k4_VsQBlank (by constructor) ?_ | refine Rm.go 3 k4_VsQBlank p4_3_VsQBlank a4_3_VsQBlank o4_3_VsQBlank mixed (by constructor) (by kernel_rfl) (by kernel_rfl) (by with_unfolding_all rfl) ?_); intro K hK) | with_reducible refine Rr.go [] (by constructor) ?_ | (with_reducible refine guardP_split (fun hg => ?_) fun hg => ?_) <;> (try simp only [hg]) <;> (try simp only [hgW] at hg) | refine Rc.go f14_ok (by constructor) ?_ | refine Rc.go c15a (by constructor) ?_ | refine Rc.go c15b (by constructor) ?_) <;> simp -implicitDefEqProofs only [hj, hgl, hn, go_sem, simprocAttr] <;> try (simp (disch := omega) only [wrW]; try simp -implicitDefEqProofs only [hj, hgl, hn, go_sem, simprocAttr]))
     | with_reducible refine And.intro (by first | omega | (simp only [hgW]; omega)) ?_
     | (exfalso; omega)
end Go.Proofs.YtfemncfhiihckaaDoor
