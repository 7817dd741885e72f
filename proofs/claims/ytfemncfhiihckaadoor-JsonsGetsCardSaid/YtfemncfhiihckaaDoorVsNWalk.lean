/- The law JsonsGets' walk over the members. -/
import Derived.Test.YtfemncfhiihckaaDoorVsNGet
open Go Go.VS
namespace Go.Proofs.YtfemncfhiihckaaDoor
set_option linter.unusedVariables false
set_option linter.unusedSimpArgs false
set_option maxRecDepth 20000
set_option maxHeartbeats 4000000
def cntS (total : Nat) (stop : Int) : Int := if 1 ≤ stop ∧ stop ≤ (total : Int) then stop else (total : Int)
theorem memG_len {gs : List GN} (hm : ∀ g ∈ gs, g.ns.length ≤ 100000 ∧ g.ks.length ≤ 100000) (i : Int) : (memG gs i).length ≤ 100000 := by
  unfold memG
  split
  · rename_i h
    have := hm (gs.getD i.toNat default) (by rw [List.getD_eq_getElem?_getD, List.getElem?_eq_getElem (show i.toNat < gs.length by omega)]; exact List.getElem_mem _)
    unfold GN.zs
    rw [List.length_zip]
    omega
  · simp
def k22_VsNWalk : List Nat := [0,1,2,3,4,5,6,7,8,9,10,11,12,15,16,17,41,47]
def a22_5_VsNWalk : List Nat := [0,0,2,7,15,31,31,31,223,479,1023,2047,4095,8191,8191,8191,57343,122879,253951,8191,1040383,2088959,4194303,8388607]
def o22_5_VsNWalk : List Nat := [0,1,2,3,4,5,6,7,8,9,10,11,12,13,14,15,16,17,18,19,20,21,22,23]
attribute [go_sem] k22_VsNWalk a22_5_VsNWalk o22_5_VsNWalk
theorem f22_ok (nb nn : Bool) (gs : List GN) (i : Int) (xs : List (List UInt8)) (stop : Int) (hg : gs.length ≤ 100000) (hm : ∀ g ∈ gs, g.ns.length ≤ 100000 ∧ g.ks.length ≤ 100000) (hxs : xs = (memG gs i).map Prod.fst) :
    CallsP Tryd.prog 22 [.sl none nb 4 (gs.map GN.av), .int .i64 i, .sl none nn 1 (xs.map .str), .int .i64 stop] (.tup [.int .i64 (cntS (memG gs i).length stop), .bool true]) := by
  have c47 := f47_ok nb gs i hg hm
  have c34 := f34_ok nb gs i
  have hml := memG_len hm i
  refine CallsP.introRF Tryd.func22 rfl (by show 4 ≤ 49; decide) ?_
  rintro X hX hR
  have hn : X.n = 49 := hX
  unfold Tryd.f22
  dsimp only
  rw [entryB_0, entry4]
  repeat' first
   | with_reducible refine Rl.go (by constructor <;> decide) ?_
   | ((with_reducible first | refine hK _ ?_ | refine hK.1 ?_ | refine hK.2 ?_); clear hK K)
   | ((with_reducible refine condS hK (fun hg => ?_) fun hg => ?_) <;> clear hK K <;> (try simp only [hgW] at hg) <;> try (exfalso; omega))
   | ((first | ((with_reducible first | refine Rk.go k22_VsNWalk (by constructor) ?_ | refine Rd.go 5 k22_VsNWalk a22_5_VsNWalk o22_5_VsNWalk mixed (by constructor) (by kernel_rfl) (by kernel_rfl) ?_); intro K hK) | with_reducible refine Rr.go [] (by constructor) ?_ | (with_reducible refine guardP_split (fun hg => ?_) fun hg => ?_) <;> (try simp only [hg]) <;> (try simp only [hgW] at hg) | (with_reducible refine callE_B3 c34 ?_)) <;> simp -implicitDefEqProofs only [eqOk_true, hn, go_sem, simprocAttr] <;> try (simp (disch := omega) only [wrW]; try simp -implicitDefEqProofs only [hn, go_sem, simprocAttr]))
   | with_reducible refine And.intro (by first | omega | (simp only [hgW]; omega)) ?_
   | (exfalso; omega)
  refine AWP.rebox rfl ?_
  simp -implicitDefEqProofs only [hn, go_sem, simprocAttr]
  refine AWP.order [1200150, 1200151, 1100004, 1100005, 1100006, 1100007, 1100008, 1100009, 1100010] rfl rfl ?_
  simp -implicitDefEqProofs only [hn, go_sem, simprocAttr]
  refine AWP.rangeT encM (memG gs i) (fun l => decide (¬ (1 ≤ stop ∧ stop ≤ (l.length : Int)))) [1200150, 1200151] [[.int .i64 i], [.sl none nb 4 (gs.map GN.av)]] _
    (fun l => [(1100004, [.sl none nb 4 (gs.map GN.av)]), (1100005, [.int .i64 i]), (1100006, [.sl none nn 1 (xs.map .str)]), (1100007, [.int .i64 stop]), (1100008, [.int .i64 0]), (1100009, [.bool false]), (1100010, [.int .i64 (l.length : Int)])])
    [4, 5, 6, 7, 8, 9, 10] [] (fun e B => e = .exit 0 ∧ (1 ≤ stop ∧ stop ≤ ((memG gs i).length : Int)) ∧ B = [(1100004, [.sl none nb 4 (gs.map GN.av)]), (1100005, [.int .i64 i]), (1100006, [.sl none nn 1 (xs.map .str)]), (1100007, [.int .i64 stop]), (1100008, [.int .i64 0]), (1100009, [.bool false]), (1100010, [.int .i64 stop])])
    (f := 47) (cap := [.ptr 1200150 0, .ptr 1200151 0]) (bs' := [[.undef], [.undef]]) hR c47 ?_ ?_ ?_ ?_ ?_ ?_ ?_ ?_ ?_ ?_ ?_ ?_
  · simp -implicitDefEqProofs only [hn, go_sem, simprocAttr]
  · rfl
  · simp [nodupN, hasN, okBL, okB, stAL, stA]
  · simp [hn, stab, stabL, lk, plainS, hasN]
  · simp [okKeys, hasN, noIdL, noId]
  · simp; omega
  · simp [hn, nodupN, hasN]
  · exact fun z => rfl
  · simp [okBL, okB, stabL, stab, bxIds]
  · rintro zs1 ⟨a, c⟩ zs2 hz h1 X' hX'
    have hn0 := hn
    have hn : X'.n = 49 := hX'.trans hn
    have hlz := congrArg List.length hz
    simp only [List.length_append, List.length_cons] at hlz
    have hin : 0 ≤ i ∧ i < (gs.length : Int) := by
      apply Classical.byContradiction
      intro h
      unfold memG at hlz
      rw [if_neg h] at hlz
      simp only [List.length_nil] at hlz
      omega
    obtain ⟨k, rfl⟩ : ∃ k : Nat, i = (k : Int) := ⟨i.toNat, by omega⟩
    obtain ⟨g, hgg⟩ : ∃ g, gs.getD k default = g := ⟨_, rfl⟩
    have hz2 : memG gs (k : Int) = g.ns.zip g.ks := by
      unfold memG
      rw [if_pos hin, Int.toNat_natCast, hgg]
      rfl
    have hz3 : (memG gs (k : Int))[zs1.length]? = some (a, c) := by rw [hz]; simp
    have hx : xs.getD zs1.length default = a := by rw [hxs, List.getD_eq_getElem?_getD, List.getElem?_map, hz3]; rfl
    have hxl : xs.length = (memG gs (k : Int)).length := by rw [hxs, List.length_map]
    obtain ⟨gk, gt, n1, ns, n2, ks⟩ := g
    simp only at hz2
    rw [hz2, List.getElem?_zip_eq_some] at hz3
    have hc : ks.getD zs1.length default = c := by rw [List.getD_eq_getElem?_getD, hz3.2]; rfl
    have hkl : zs1.length < ks.length := (List.getElem?_eq_some_iff.1 hz3.2).1
    unfold encM
    simp -implicitDefEqProofs only [hn, go_sem, simprocAttr]
    repeat' first
     | with_reducible refine Rl.go (by constructor <;> decide) ?_
     | ((with_reducible first | refine hK _ ?_ | refine hK.1 ?_ | refine hK.2 ?_); clear hK K)
     | ((with_reducible refine condS hK (fun hg => ?_) fun hg => ?_) <;> clear hK K <;> (try simp only [hgW] at hg) <;> try (exfalso; omega))
     | ((first | ((with_reducible first | refine Rk.go k22_VsNWalk (by constructor) ?_ | refine Rd.go 5 k22_VsNWalk a22_5_VsNWalk o22_5_VsNWalk mixed (by constructor) (by kernel_rfl) (by kernel_rfl) ?_); intro K hK) | with_reducible refine Rr.go [] (by constructor) ?_ | (with_reducible refine guardP_split (fun hg => ?_) fun hg => ?_) <;> (try simp only [hg]) <;> (try simp only [hgW] at hg)) <;> simp -implicitDefEqProofs only [hn, go_sem, simprocAttr] <;> try (simp (disch := omega) only [wrW]; try simp -implicitDefEqProofs only [hn, go_sem, simprocAttr]))
     | with_reducible refine And.intro (by first | omega | (simp only [hgW]; omega)) ?_
     | (exfalso; omega)
    refine ⟨rfl, by simp [hX', hn0, lk, plainS], fun X'' hX'' => ?_⟩
    have hn : X''.n = 49 := hX''.trans hn0
    have ez : (zs1.length : Int) + 1 = ((zs1.length + 1 : Nat) : Int) := by omega
    simp only [decide_eq_true_eq] at h1
    repeat' first
     | with_reducible refine Rl.go (by constructor <;> decide) ?_
     | ((with_reducible first | refine hK _ ?_ | refine hK.1 ?_ | refine hK.2 ?_); clear hK K)
     | ((with_reducible refine condS hK (fun hg => ?_) fun hg => ?_) <;> clear hK K <;> (try simp only [hgW] at hg) <;> try (exfalso; omega))
     | ((first | ((with_reducible first | refine Rk.go k22_VsNWalk (by constructor) ?_ | refine Rd.go 5 k22_VsNWalk a22_5_VsNWalk o22_5_VsNWalk mixed (by constructor) (by kernel_rfl) (by kernel_rfl) ?_); intro K hK) | with_reducible refine Rr.go [] (by constructor) ?_ | (with_reducible refine guardP_split (fun hg => ?_) fun hg => ?_) <;> (try simp only [hg]) <;> (try simp only [hgW] at hg)) <;> simp -implicitDefEqProofs only [hgg, GN.av, hx, hc, hn, go_sem, simprocAttr] <;> try (simp (disch := omega) only [wrW]; try simp -implicitDefEqProofs only [hgg, GN.av, hx, hc, hn, go_sem, simprocAttr]))
     | with_reducible refine And.intro (by first | omega | (simp only [hgW]; omega)) ?_
     | (exfalso; omega)
    · refine ⟨_, ?_, ?_, .inr ⟨rfl, rfl, ⟨by omega, by omega⟩, rfl⟩⟩
      · simp -implicitDefEqProofs only [hn, go_sem, simprocAttr]
        rw [hg]
      · rfl
    · refine ⟨_, ?_, ?_, .inl ⟨rfl, ?_, rfl⟩⟩
      · simp -implicitDefEqProofs only [hn, go_sem, simprocAttr]
        simp
      · rfl
      · simp
        omega
  · intro h1
    simp only [decide_eq_true_eq] at h1
    have : cntS (memG gs i).length stop = ((memG gs i).length : Int) := if_neg h1
    rw [this]
    simp -implicitDefEqProofs only [hn, go_sem, simprocAttr]
    repeat' first
     | with_reducible refine Rl.go (by constructor <;> decide) ?_
     | ((with_reducible first | refine hK _ ?_ | refine hK.1 ?_ | refine hK.2 ?_); clear hK K)
     | ((with_reducible refine condS hK (fun hg => ?_) fun hg => ?_) <;> clear hK K <;> (try simp only [hgW] at hg) <;> try (exfalso; omega))
     | ((first | ((with_reducible first | refine Rk.go k22_VsNWalk (by constructor) ?_ | refine Rd.go 5 k22_VsNWalk a22_5_VsNWalk o22_5_VsNWalk mixed (by constructor) (by kernel_rfl) (by kernel_rfl) ?_); intro K hK) | with_reducible refine Rr.go [] (by constructor) ?_ | (with_reducible refine guardP_split (fun hg => ?_) fun hg => ?_) <;> (try simp only [hg]) <;> (try simp only [hgW] at hg)) <;> simp -implicitDefEqProofs only [hn, go_sem, simprocAttr] <;> try (simp (disch := omega) only [wrW]; try simp -implicitDefEqProofs only [hn, go_sem, simprocAttr]))
     | with_reducible refine And.intro (by first | omega | (simp only [hgW]; omega)) ?_
     | (exfalso; omega)
  · rintro e B - ⟨rfl, h1, rfl⟩
    have : cntS (memG gs i).length stop = stop := if_pos h1
    rw [this]
    simp -implicitDefEqProofs only [hn, go_sem, simprocAttr]
    repeat' first
     | with_reducible refine Rl.go (by constructor <;> decide) ?_
     | ((with_reducible first | refine hK _ ?_ | refine hK.1 ?_ | refine hK.2 ?_); clear hK K)
     | ((with_reducible refine condS hK (fun hg => ?_) fun hg => ?_) <;> clear hK K <;> (try simp only [hgW] at hg) <;> try (exfalso; omega))
     | ((first | ((with_reducible first | refine Rk.go k22_VsNWalk (by constructor) ?_ | refine Rd.go 5 k22_VsNWalk a22_5_VsNWalk o22_5_VsNWalk mixed (by constructor) (by kernel_rfl) (by kernel_rfl) ?_); intro K hK) | with_reducible refine Rr.go [] (by constructor) ?_ | (with_reducible refine guardP_split (fun hg => ?_) fun hg => ?_) <;> (try simp only [hg]) <;> (try simp only [hgW] at hg)) <;> simp -implicitDefEqProofs only [hn, go_sem, simprocAttr] <;> try (simp (disch := omega) only [wrW]; try simp -implicitDefEqProofs only [hn, go_sem, simprocAttr]))
     | with_reducible refine And.intro (by first | omega | (simp only [hgW]; omega)) ?_
     | (exfalso; omega)
end Go.Proofs.YtfemncfhiihckaaDoor
