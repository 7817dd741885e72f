/- What Get answers. -/
import Derived.Test.YtfemncfhiihckaaDoorVsNMem
open Go Go.VS
namespace Go.Proofs.YtfemncfhiihckaaDoor
set_option linter.unusedVariables false
set_option linter.unusedSimpArgs false
set_option maxRecDepth 20000
set_option maxHeartbeats 4000000
def getS (zs : List (List UInt8 × Int)) (t : List UInt8) : Int × Bool := match zs.find? (fun z => decide (z.1 = t)) with | some z => (z.2, true) | none => (0, false)
theorem getS_none {zs : List (List UInt8 × Int)} {t : List UInt8} (h : zs.all (fun z => decide (z.1 ≠ t)) = true) : getS zs t = (0, false) := by
  unfold getS
  rw [List.find?_eq_none.2 fun z hz => by simpa using List.all_eq_true.1 h z hz]
theorem getS_some {zs1 zs2 : List (List UInt8 × Int)} {z : List UInt8 × Int} {t : List UInt8} (h : zs1.all (fun z => decide (z.1 ≠ t)) = true) (hz : z.1 = t) : getS (zs1 ++ z :: zs2) t = (z.2, true) := by
  unfold getS
  rw [List.find?_append, List.find?_eq_none.2 fun z hz => by simpa using List.all_eq_true.1 h z hz, List.find?_cons]
  simp [hz]
def k20_VsNGet : List Nat := [0,1,2,5,6,7,8,9,12,13,14,17]
attribute [go_sem] k20_VsNGet
theorem f20_ok (nb : Bool) (gs : List GN) (i : Int) (t : List UInt8) (hg : gs.length ≤ 100000) (hm : ∀ g ∈ gs, g.ns.length ≤ 100000 ∧ g.ks.length ≤ 100000) : CallsP Tryd.prog 20 [.sl none nb 4 (gs.map GN.av), .int .i64 i, .str t] (.tup [.int .i64 (getS (memG gs i) t).1, .bool (getS (memG gs i) t).2]) := by
  have c47 := f47_ok nb gs i hg hm
  have c34 := f34_ok nb gs i
  refine CallsP.introRF Tryd.func20 rfl (by show 3 ≤ 19; decide) ?_
  rintro X hX hR
  have hn : X.n = 19 := hX
  unfold Tryd.f20
  dsimp only
  rw [entryB_0, entry3]
  repeat' first
   | with_reducible refine Rl.go (by constructor <;> decide) ?_
   | ((with_reducible first | refine hK _ ?_ | refine hK.1 ?_ | refine hK.2 ?_); clear hK K)
   | ((with_reducible refine condS hK (fun hg => ?_) fun hg => ?_) <;> clear hK K <;> (try simp only [hgW] at hg) <;> try (exfalso; omega))
   | ((first | ((with_reducible first | refine Rk.go k20_VsNGet (by constructor) ?_); intro K hK) | with_reducible refine Rr.go [] (by constructor) ?_ | (with_reducible refine guardP_split (fun hg => ?_) fun hg => ?_) <;> (try simp only [hg]) <;> (try simp only [hgW] at hg) | (with_reducible refine callE_B3 c34 ?_)) <;> simp -implicitDefEqProofs only [eqOk_true, hn, go_sem, simprocAttr] <;> try (simp (disch := omega) only [wrW]; try simp -implicitDefEqProofs only [hn, go_sem, simprocAttr]))
   | with_reducible refine And.intro (by first | omega | (simp only [hgW]; omega)) ?_
   | (exfalso; omega)
  refine AWP.rebox rfl ?_
  simp -implicitDefEqProofs only [hn, go_sem, simprocAttr]
  refine AWP.order [1200120, 1200121, 1100005, 1100006, 1100007] rfl rfl ?_
  simp -implicitDefEqProofs only [hn, go_sem, simprocAttr]
  refine AWP.rangeT encM (memG gs i) (fun l => l.all fun z => decide (z.1 ≠ t)) [1200120, 1200121] [[.int .i64 i], [.sl none nb 4 (gs.map GN.av)]] _
    (fun l => [(1100005, [.str t]), (1100006, [.int .i64 0]), (1100007, [.bool false])])
    [5, 6, 7] [] (fun e B => e = .ret ∧ B = [(1100005, [.str t]), (1100006, [.int .i64 (getS (memG gs i) t).1]), (1100007, [.bool (getS (memG gs i) t).2])])
    (f := 47) (cap := [.ptr 1200120 0, .ptr 1200121 0]) (bs' := [[.undef], [.undef]]) hR c47 ?_ ?_ ?_ ?_ ?_ ?_ ?_ ?_ ?_ ?_ ?_ ?_
  · simp -implicitDefEqProofs only [hn, go_sem, simprocAttr]
  · rfl
  · simp [nodupN, hasN, okBL, okB, stAL, stA]
  · simp [hn, stab, stabL, lk, plainS, hasN]
  · simp [okKeys, hasN, noIdL, noId]
  · rfl
  · simp [hn, nodupN, hasN]
  · exact fun z => rfl
  · simp [okBL, okB, stabL, stab, bxIds]
  · rintro zs1 ⟨a, c⟩ zs2 hz h1 X' hX'
    have hn0 := hn
    have hn : X'.n = 19 := hX'.trans hn
    unfold encM
    simp -implicitDefEqProofs only [hn, go_sem, simprocAttr]
    repeat' first
     | with_reducible refine Rl.go (by constructor <;> decide) ?_
     | ((with_reducible first | refine hK _ ?_ | refine hK.1 ?_ | refine hK.2 ?_); clear hK K)
     | ((with_reducible refine condS hK (fun hg => ?_) fun hg => ?_) <;> clear hK K <;> (try simp only [hgW] at hg) <;> try (exfalso; omega))
     | ((first | ((with_reducible first | refine Rk.go k20_VsNGet (by constructor) ?_); intro K hK) | with_reducible refine Rr.go [] (by constructor) ?_ | (with_reducible refine guardP_split (fun hg => ?_) fun hg => ?_) <;> (try simp only [hg]) <;> (try simp only [hgW] at hg)) <;> simp -implicitDefEqProofs only [hn, go_sem, simprocAttr] <;> try (simp (disch := omega) only [wrW]; try simp -implicitDefEqProofs only [hn, go_sem, simprocAttr]))
     | with_reducible refine And.intro (by first | omega | (simp only [hgW]; omega)) ?_
     | (exfalso; omega)
    refine ⟨rfl, by simp [hX', hn0, lk, plainS], fun X'' hX'' => ?_⟩
    have hn : X''.n = 19 := hX''.trans hn0
    by_cases he : a = t
    · subst he
      have hgs := getS_some (zs2 := zs2) (z := (a, c)) h1 rfl
      rw [← hz] at hgs
      rw [hgs]
      repeat' first
       | with_reducible refine Rl.go (by constructor <;> decide) ?_
       | ((with_reducible first | refine hK _ ?_ | refine hK.1 ?_ | refine hK.2 ?_); clear hK K)
       | ((with_reducible refine condS hK (fun hg => ?_) fun hg => ?_) <;> clear hK K <;> (try simp only [hgW] at hg) <;> try (exfalso; omega))
       | ((first | ((with_reducible first | refine Rk.go k20_VsNGet (by constructor) ?_); intro K hK) | with_reducible refine Rr.go [] (by constructor) ?_ | (with_reducible refine guardP_split (fun hg => ?_) fun hg => ?_) <;> (try simp only [hg]) <;> (try simp only [hgW] at hg)) <;> simp -implicitDefEqProofs only [hn, go_sem, simprocAttr] <;> try (simp (disch := omega) only [wrW]; try simp -implicitDefEqProofs only [hn, go_sem, simprocAttr]))
       | with_reducible refine And.intro (by first | omega | (simp only [hgW]; omega)) ?_
       | (exfalso; omega)
      refine ⟨_, ?_, ?_, .inr ⟨rfl, rfl, rfl⟩⟩
      · simp -implicitDefEqProofs only [hn, go_sem, simprocAttr]
        try rfl
      · rfl
    · skip
      repeat' first
       | with_reducible refine Rl.go (by constructor <;> decide) ?_
       | ((with_reducible first | refine hK _ ?_ | refine hK.1 ?_ | refine hK.2 ?_); clear hK K)
       | ((with_reducible refine condS hK (fun hg => ?_) fun hg => ?_) <;> clear hK K <;> (try simp only [hgW] at hg) <;> try (exfalso; omega))
       | ((first | ((with_reducible first | refine Rk.go k20_VsNGet (by constructor) ?_); intro K hK) | with_reducible refine Rr.go [] (by constructor) ?_ | (with_reducible refine guardP_split (fun hg => ?_) fun hg => ?_) <;> (try simp only [hg]) <;> (try simp only [hgW] at hg)) <;> simp -implicitDefEqProofs only [he, hn, go_sem, simprocAttr] <;> try (simp (disch := omega) only [wrW]; try simp -implicitDefEqProofs only [he, hn, go_sem, simprocAttr]))
       | with_reducible refine And.intro (by first | omega | (simp only [hgW]; omega)) ?_
       | (exfalso; omega)
      · exact absurd (eq_of_beq hg) he
      refine ⟨_, ?_, ?_, .inl ⟨rfl, by simp [he] at h1 ⊢; exact h1, rfl⟩⟩
      · simp -implicitDefEqProofs only [hn, go_sem, simprocAttr]
        try rfl
      · rfl
  · intro h1
    rw [getS_none h1]
    simp -implicitDefEqProofs only [hn, go_sem, simprocAttr]
    repeat' first
     | with_reducible refine Rl.go (by constructor <;> decide) ?_
     | ((with_reducible first | refine hK _ ?_ | refine hK.1 ?_ | refine hK.2 ?_); clear hK K)
     | ((with_reducible refine condS hK (fun hg => ?_) fun hg => ?_) <;> clear hK K <;> (try simp only [hgW] at hg) <;> try (exfalso; omega))
     | ((first | ((with_reducible first | refine Rk.go k20_VsNGet (by constructor) ?_); intro K hK) | with_reducible refine Rr.go [] (by constructor) ?_ | (with_reducible refine guardP_split (fun hg => ?_) fun hg => ?_) <;> (try simp only [hg]) <;> (try simp only [hgW] at hg)) <;> simp -implicitDefEqProofs only [hn, go_sem, simprocAttr] <;> try (simp (disch := omega) only [wrW]; try simp -implicitDefEqProofs only [hn, go_sem, simprocAttr]))
     | with_reducible refine And.intro (by first | omega | (simp only [hgW]; omega)) ?_
     | (exfalso; omega)
  · rintro e B - ⟨rfl, rfl⟩
    simp -implicitDefEqProofs only [hn, go_sem, simprocAttr]
    repeat' first
     | with_reducible refine Rl.go (by constructor <;> decide) ?_
     | ((with_reducible first | refine hK _ ?_ | refine hK.1 ?_ | refine hK.2 ?_); clear hK K)
     | ((with_reducible refine condS hK (fun hg => ?_) fun hg => ?_) <;> clear hK K <;> (try simp only [hgW] at hg) <;> try (exfalso; omega))
     | ((first | ((with_reducible first | refine Rk.go k20_VsNGet (by constructor) ?_); intro K hK) | with_reducible refine Rr.go [] (by constructor) ?_ | (with_reducible refine guardP_split (fun hg => ?_) fun hg => ?_) <;> (try simp only [hg]) <;> (try simp only [hgW] at hg)) <;> simp -implicitDefEqProofs only [hn, go_sem, simprocAttr] <;> try (simp (disch := omega) only [wrW]; try simp -implicitDefEqProofs only [hn, go_sem, simprocAttr]))
     | with_reducible refine And.intro (by first | omega | (simp only [hgW]; omega)) ?_
     | (exfalso; omega)
end Go.Proofs.YtfemncfhiihckaaDoor
