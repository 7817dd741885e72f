/- Places, so many on. -/
import Derived.Test.YtfemncfhiihckaaDoorVsPShift
open Go Go.VS
namespace Go.Proofs.YtfemncfhiihckaaDoor
set_option linter.unusedVariables false
set_option linter.unusedSimpArgs false
set_option maxRecDepth 20000
set_option maxHeartbeats 4000000
def k19_VsQFar : List Nat := [0,1,4,5,7,8,9,10,11]
attribute [go_sem] k19_VsQFar
theorem f19_ok (ks : List Nat) (nb : Bool) (by_ : Nat) (hl : ks.length ≤ 100000) (hk : ∀ k ∈ ks, k ≤ 100000) (hb : by_ ≤ 100000) :
    CallsP Tryd.prog 19 [.sl none nb 1 (ks.map i64n), .int .i64 (by_ : Int)] (.sl none (ks.map (· + by_)).isEmpty 1 ((ks.map (· + by_)).map i64n)) := by
  refine CallsP.introF Tryd.func19 rfl (by show 2 ≤ 22; decide) ?_
  rintro X hX
  have hn : X.n = 22 := hX
  unfold Tryd.f19
  dsimp only
  rw [entryB_0, entry2]
  repeat' first
   | with_reducible refine Rl.go (by constructor <;> decide) ?_
   | ((with_reducible first | refine hK _ ?_ | refine hK.1 ?_ | refine hK.2 ?_); clear hK K)
   | ((with_reducible refine condS hK (fun hg => ?_) fun hg => ?_) <;> clear hK K <;> (try simp only [hgW] at hg) <;> try (exfalso; omega))
   | ((first | ((with_reducible first | refine Rk.go k19_VsQFar (by constructor) ?_); intro K hK) | with_reducible refine Rr.go [] (by constructor) ?_ | (with_reducible refine guardP_split (fun hg => ?_) fun hg => ?_) <;> (try simp only [hg]) <;> (try simp only [hgW] at hg)) <;> simp -implicitDefEqProofs only [hn, go_sem, simprocAttr] <;> try (simp (disch := omega) only [wrW]; try simp -implicitDefEqProofs only [hn, go_sem, simprocAttr]))
   | with_reducible refine And.intro (by first | omega | (simp only [hgW]; omega)) ?_
   | (exfalso; omega)
  refine AWP.adopt 5 (0, 999) 0 1 (by rfl) ?_
  refine AWP.loopX [1, 5, 8, 9, 10] [] (fun i : Nat => St.mk (lk [(1, .int .i64 (by_ : Int)), (5, .sl (some ((0, 999), 0)) ((ks.take i).map (· + by_)).isEmpty 1 (((ks.take i).map (· + by_)).map i64n)), (8, .sl none nb 1 (ks.map i64n)), (9, .int .i64 (ks.length : Int)), (10, .int .i64 (i : Int))]) (lkB []) (hasS []) (hasS []) (hasN []) (lkR []))
    (fun i => i ≤ ks.length) (fun i => ks.length - i) 0 ?_ (Nat.zero_le _) ?_
  · simp -implicitDefEqProofs only [hn, go_sem, simprocAttr]
    try rfl
  intro i hi
  try dsimp only
  have ei : (i : Int) + 1 = ((i + 1 : Nat) : Int) := by omega
  by_cases hil : i = ks.length
  · subst hil
    rw [List.take_length]
    repeat' first
     | with_reducible refine Rl.go (by constructor <;> decide) ?_
     | ((with_reducible first | refine hK _ ?_ | refine hK.1 ?_ | refine hK.2 ?_); clear hK K)
     | ((with_reducible refine condS hK (fun hg => ?_) fun hg => ?_) <;> clear hK K <;> (try simp only [hgW] at hg) <;> try (exfalso; omega))
     | ((first | ((with_reducible first | refine Rk.go k19_VsQFar (by constructor) ?_); intro K hK) | with_reducible refine Rr.go [] (by constructor) ?_ | (with_reducible refine guardP_split (fun hg => ?_) fun hg => ?_) <;> (try simp only [hg]) <;> (try simp only [hgW] at hg)) <;> simp -implicitDefEqProofs only [hn, go_sem, simprocAttr] <;> try (simp (disch := omega) only [wrW]; try simp -implicitDefEqProofs only [hn, go_sem, simprocAttr]))
     | with_reducible refine And.intro (by first | omega | (simp only [hgW]; omega)) ?_
     | (exfalso; omega)
  · obtain ⟨x, hx⟩ : ∃ x, ks.getD i default = x := ⟨_, rfl⟩
    have hxm : x ≤ 100000 := by
      refine hk x ?_
      rw [← hx, List.getD_eq_getElem?_getD, List.getElem?_eq_getElem (show i < ks.length by omega)]
      exact List.getElem_mem _
    have hst : (ks.take (i + 1)).map (· + by_) = (ks.take i).map (· + by_) ++ [x + by_] := by
      rw [List.take_succ_eq_append_getElem (show i < ks.length by omega), List.map_append]
      rw [List.getD_eq_getElem?_getD, List.getElem?_eq_getElem (show i < ks.length by omega)] at hx
      simp only [Option.getD_some] at hx
      rw [hx]; rfl
    have hil2 : ((ks.take i).map (· + by_)).length ≤ 100000 := by rw [List.length_map, List.length_take]; omega
    obtain ⟨L, hL⟩ : ∃ L, (ks.take i).map (· + by_) = L := ⟨_, rfl⟩
    rw [hL] at hst hil2 ⊢
    have hie : (L ++ [x + by_]).isEmpty = false := by simp
    have exb : (x : Int) + (by_ : Int) = ((x + by_ : Nat) : Int) := by omega
    repeat' first
     | with_reducible refine Rl.go (by constructor <;> decide) ?_
     | ((with_reducible first | refine hK _ ?_ | refine hK.1 ?_ | refine hK.2 ?_); clear hK K)
     | ((with_reducible refine condS hK (fun hg => ?_) fun hg => ?_) <;> clear hK K <;> (try simp only [hgW] at hg) <;> try (exfalso; omega))
     | ((first | ((with_reducible first | refine Rk.go k19_VsQFar (by constructor) ?_); intro K hK) | with_reducible refine Rr.go [] (by constructor) ?_ | (with_reducible refine guardP_split (fun hg => ?_) fun hg => ?_) <;> (try simp only [hg]) <;> (try simp only [hgW] at hg)) <;> simp -implicitDefEqProofs only [i64n, hx, exb, hn, go_sem, simprocAttr] <;> try (simp (disch := omega) only [wrW]; try simp -implicitDefEqProofs only [i64n, hx, exb, hn, go_sem, simprocAttr]))
     | with_reducible refine And.intro (by first | omega | (simp only [hgW]; omega)) ?_
     | (exfalso; omega)
    refine ⟨i + 1, ?_, by omega, by omega⟩
    rw [hst]
    simp -implicitDefEqProofs only [ei, i64n, hie, List.map_append, List.map_cons, List.map_nil, hn, go_sem, simprocAttr]
    try rfl
end Go.Proofs.YtfemncfhiihckaaDoor
