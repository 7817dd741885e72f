/- Two equal lists of nodes are the same. -/
import Derived.Test.YtfemncfhiihckaaDoorVsLSmall
open Go Go.VS
namespace Go.Proofs.YtfemncfhiihckaaDoor
set_option linter.unusedVariables false
set_option linter.unusedSimpArgs false
set_option maxRecDepth 20000
set_option maxHeartbeats 4000000
def k18_VsLSame : List Nat := [0,1,4,5,6,7,12,16,72,80,99,107,126]
def a18_6_VsLSame : List Nat := [0,0,3,7,15,0,0,96,224,480,1023,2047,4095,4095,16383,32767,65535,4095,4095,397311,921599,1970175,4194303,8388607,16777215,33554431,33554431,134217727,268435455,536870911,1073741823,33554431,33554431,6476005375,15065939967,32245809151,66605547519,137438953471,274877906943,549755813887,1099511627775,1099511627775,4398046511103,8796093022207,17592186044415,35184372088831,1099511627775,1099511627775,212205744160767,493680720871423,1056630674292735,2182530581135359,4503599627370495,9007199254740991]
def o18_6_VsLSame : List Nat := [0,1,2,3,4,5,6,7,8,9,10,11,12,13,14,15,16,17,18,19,20,21,22,23,24,25,26,27,28,29,30,31,32,33,34,35,36,37,38,39,40,41,42,43,44,45,46,47,48,49,50,51,52,53]
def a18_11_VsLSame : List Nat := [0,0,3,7,15,0,63,127,0,0,768,1792,3840,0,16128,32512,65535]
def o18_11_VsLSame : List Nat := [0,1,2,3,4,5,6,7,8,9,10,11,12,13,14,15,16]
def a18_16_VsLSame : List Nat := [0,0,3,7,15,0,63,127,0,0,768,1792,3840,0,16128,32512,65535]
def o18_16_VsLSame : List Nat := [0,1,2,3,4,5,6,7,8,9,10,11,12,13,14,15,16]
attribute [go_sem] k18_VsLSame a18_6_VsLSame o18_6_VsLSame a18_11_VsLSame o18_11_VsLSame a18_16_VsLSame o18_16_VsLSame
theorem f18_same (l : List JN) (n1 n2 : Bool) (hl : l.length ≤ 100000) (hs : ∀ x ∈ l, smallJ x) : CallsP Tryd.prog 18 [.sl none n1 4 (l.map JN.av), .sl none n2 4 (l.map JN.av)] (.bool true) := by
  refine CallsP.intro Tryd.func18 rfl (by show 2 ≤ 127; decide) ?_
  rintro X hX
  have hn : X.n = 127 := hX
  unfold Tryd.f18
  dsimp only
  rw [entry2]
  repeat' first
   | with_reducible refine Rl.go (by constructor <;> decide) ?_
   | ((with_reducible first | refine hK _ ?_ | refine hK.1 ?_ | refine hK.2 ?_); clear hK K)
   | ((with_reducible refine condS hK (fun hg => ?_) fun hg => ?_) <;> clear hK K <;> (try simp only [hgW] at hg) <;> try (exfalso; omega))
   | ((first | ((with_reducible first | refine Rk.go k18_VsLSame (by constructor) ?_ | refine Rd.go 6 k18_VsLSame a18_6_VsLSame o18_6_VsLSame mixed (by constructor) (by kernel_rfl) (by kernel_rfl) ?_ | refine Rd.go 11 k18_VsLSame a18_11_VsLSame o18_11_VsLSame mixed (by constructor) (by kernel_rfl) (by kernel_rfl) ?_ | refine Rd.go 16 k18_VsLSame a18_16_VsLSame o18_16_VsLSame mixed (by constructor) (by kernel_rfl) (by kernel_rfl) ?_); intro K hK) | with_reducible refine Rr.go [] (by constructor) ?_ | (with_reducible refine guardP_split (fun hg => ?_) fun hg => ?_) <;> (try simp only [hg]) <;> (try simp only [hgW] at hg)) <;> simp -implicitDefEqProofs only [hn, go_sem, simprocAttr] <;> try (simp (disch := omega) only [wrW]; try simp -implicitDefEqProofs only [hn, go_sem, simprocAttr]))
   | with_reducible refine And.intro (by first | omega | (simp only [hgW]; omega)) ?_
   | (exfalso; omega)
  refine AWP.loopX [0, 1, 4, 5] [] (fun i : Nat => St.mk (lk [(0, .sl none n1 4 (l.map JN.av)), (1, .sl none n2 4 (l.map JN.av)), (4, .bool false), (5, .int .i64 (i : Int))]) (lkB []) (hasS []) (hasS []) (hasN []) (lkR []))
    (fun i => i ≤ l.length) (fun i => l.length - i) 0 ?_ (Nat.zero_le _) ?_
  · simp -implicitDefEqProofs only [hn, go_sem, simprocAttr]
    try rfl
  intro i hi
  try dsimp only
  have ei : (i : Int) + 1 = ((i + 1 : Nat) : Int) := by omega
  by_cases hil : i = l.length
  · subst hil
    repeat' first
     | with_reducible refine Rl.go (by constructor <;> decide) ?_
     | ((with_reducible first | refine hK _ ?_ | refine hK.1 ?_ | refine hK.2 ?_); clear hK K)
     | ((with_reducible refine condS hK (fun hg => ?_) fun hg => ?_) <;> clear hK K <;> (try simp only [hgW] at hg) <;> try (exfalso; omega))
     | ((first | ((with_reducible first | refine Rk.go k18_VsLSame (by constructor) ?_ | refine Rd.go 6 k18_VsLSame a18_6_VsLSame o18_6_VsLSame mixed (by constructor) (by kernel_rfl) (by kernel_rfl) ?_ | refine Rd.go 11 k18_VsLSame a18_11_VsLSame o18_11_VsLSame mixed (by constructor) (by kernel_rfl) (by kernel_rfl) ?_ | refine Rd.go 16 k18_VsLSame a18_16_VsLSame o18_16_VsLSame mixed (by constructor) (by kernel_rfl) (by kernel_rfl) ?_); intro K hK) | with_reducible refine Rr.go [] (by constructor) ?_ | (with_reducible refine guardP_split (fun hg => ?_) fun hg => ?_) <;> (try simp only [hg]) <;> (try simp only [hgW] at hg)) <;> simp -implicitDefEqProofs only [hn, go_sem, simprocAttr] <;> try (simp (disch := omega) only [wrW]; try simp -implicitDefEqProofs only [hn, go_sem, simprocAttr]))
     | with_reducible refine And.intro (by first | omega | (simp only [hgW]; omega)) ?_
     | (exfalso; omega)
  obtain ⟨x, hx⟩ : ∃ x, l.getD i default = x := ⟨_, rfl⟩
  have hxm : smallJ x := by
    refine hs x ?_
    rw [← hx, List.getD_eq_getElem?_getD, List.getElem?_eq_getElem (show i < l.length by omega)]
    exact List.getElem_mem _
  obtain ⟨xk, xt, xn, xs⟩ := x
  obtain ⟨hn1, hk1⟩ := hxm
  simp only at hn1 hk1
  repeat' first
   | with_reducible refine Rl.go (by constructor <;> decide) ?_
   | ((with_reducible first | refine hK _ ?_ | refine hK.1 ?_ | refine hK.2 ?_); clear hK K)
   | ((with_reducible refine condS hK (fun hg => ?_) fun hg => ?_) <;> clear hK K <;> (try simp only [hgW] at hg) <;> try (exfalso; omega))
   | ((first | ((with_reducible first | refine Rk.go k18_VsLSame (by constructor) ?_ | refine Rd.go 6 k18_VsLSame a18_6_VsLSame o18_6_VsLSame mixed (by constructor) (by kernel_rfl) (by kernel_rfl) ?_ | refine Rd.go 11 k18_VsLSame a18_11_VsLSame o18_11_VsLSame mixed (by constructor) (by kernel_rfl) (by kernel_rfl) ?_ | refine Rd.go 16 k18_VsLSame a18_16_VsLSame o18_16_VsLSame mixed (by constructor) (by kernel_rfl) (by kernel_rfl) ?_); intro K hK) | with_reducible refine Rr.go [] (by constructor) ?_ | (with_reducible refine guardP_split (fun hg => ?_) fun hg => ?_) <;> (try simp only [hg]) <;> (try simp only [hgW] at hg)) <;> simp -implicitDefEqProofs only [hx, JN.av, hn, go_sem, simprocAttr] <;> try (simp (disch := omega) only [wrW]; try simp -implicitDefEqProofs only [hx, JN.av, hn, go_sem, simprocAttr]))
   | with_reducible refine And.intro (by first | omega | (simp only [hgW]; omega)) ?_
   | (exfalso; omega)
  refine AWP.loopX [0, 1, 4, 5, 6] [] (fun k : Nat => St.mk (lk [(0, .sl none n1 4 (l.map JN.av)), (1, .sl none n2 4 (l.map JN.av)), (4, .bool false), (5, .int .i64 (i : Int)), (6, .int .i64 (k : Int))]) (lkB []) (hasS []) (hasS []) (hasN []) (lkR []))
    (fun k => k ≤ xn.length) (fun k => xn.length - k) 0 ?_ (Nat.zero_le _) ?_
  · simp -implicitDefEqProofs only [hn, go_sem, simprocAttr]
    try rfl
  intro k hk
  try dsimp only
  have ek : (k : Int) + 1 = ((k + 1 : Nat) : Int) := by omega
  by_cases hkl : k = xn.length
  · subst hkl
    repeat' first
     | with_reducible refine Rl.go (by constructor <;> decide) ?_
     | ((with_reducible first | refine hK _ ?_ | refine hK.1 ?_ | refine hK.2 ?_); clear hK K)
     | ((with_reducible refine condS hK (fun hg => ?_) fun hg => ?_) <;> clear hK K <;> (try simp only [hgW] at hg) <;> try (exfalso; omega))
     | ((first | ((with_reducible first | refine Rk.go k18_VsLSame (by constructor) ?_ | refine Rd.go 6 k18_VsLSame a18_6_VsLSame o18_6_VsLSame mixed (by constructor) (by kernel_rfl) (by kernel_rfl) ?_ | refine Rd.go 11 k18_VsLSame a18_11_VsLSame o18_11_VsLSame mixed (by constructor) (by kernel_rfl) (by kernel_rfl) ?_ | refine Rd.go 16 k18_VsLSame a18_16_VsLSame o18_16_VsLSame mixed (by constructor) (by kernel_rfl) (by kernel_rfl) ?_); intro K hK) | with_reducible refine Rr.go [] (by constructor) ?_ | (with_reducible refine guardP_split (fun hg => ?_) fun hg => ?_) <;> (try simp only [hg]) <;> (try simp only [hgW] at hg)) <;> simp -implicitDefEqProofs only [hx, JN.av, hn, go_sem, simprocAttr] <;> try (simp (disch := omega) only [wrW]; try simp -implicitDefEqProofs only [hx, JN.av, hn, go_sem, simprocAttr]))
     | with_reducible refine And.intro (by first | omega | (simp only [hgW]; omega)) ?_
     | (exfalso; omega)
    refine AWP.loopX [0, 1, 4, 5, 7] [] (fun k : Nat => St.mk (lk [(0, .sl none n1 4 (l.map JN.av)), (1, .sl none n2 4 (l.map JN.av)), (4, .bool false), (5, .int .i64 (i : Int)), (7, .int .i64 (k : Int))]) (lkB []) (hasS []) (hasS []) (hasN []) (lkR []))
      (fun k => k ≤ xs.length) (fun k => xs.length - k) 0 ?_ (Nat.zero_le _) ?_
    · simp -implicitDefEqProofs only [hn, go_sem, simprocAttr]
      try rfl
    intro m hm
    try dsimp only
    have em : (m : Int) + 1 = ((m + 1 : Nat) : Int) := by omega
    by_cases hml : m = xs.length
    · subst hml
      repeat' first
       | with_reducible refine Rl.go (by constructor <;> decide) ?_
       | ((with_reducible first | refine hK _ ?_ | refine hK.1 ?_ | refine hK.2 ?_); clear hK K)
       | ((with_reducible refine condS hK (fun hg => ?_) fun hg => ?_) <;> clear hK K <;> (try simp only [hgW] at hg) <;> try (exfalso; omega))
       | ((first | ((with_reducible first | refine Rk.go k18_VsLSame (by constructor) ?_ | refine Rd.go 6 k18_VsLSame a18_6_VsLSame o18_6_VsLSame mixed (by constructor) (by kernel_rfl) (by kernel_rfl) ?_ | refine Rd.go 11 k18_VsLSame a18_11_VsLSame o18_11_VsLSame mixed (by constructor) (by kernel_rfl) (by kernel_rfl) ?_ | refine Rd.go 16 k18_VsLSame a18_16_VsLSame o18_16_VsLSame mixed (by constructor) (by kernel_rfl) (by kernel_rfl) ?_); intro K hK) | with_reducible refine Rr.go [] (by constructor) ?_ | (with_reducible refine guardP_split (fun hg => ?_) fun hg => ?_) <;> (try simp only [hg]) <;> (try simp only [hgW] at hg)) <;> simp -implicitDefEqProofs only [hx, JN.av, hn, go_sem, simprocAttr] <;> try (simp (disch := omega) only [wrW]; try simp -implicitDefEqProofs only [hx, JN.av, hn, go_sem, simprocAttr]))
       | with_reducible refine And.intro (by first | omega | (simp only [hgW]; omega)) ?_
       | (exfalso; omega)
      refine ⟨i + 1, ?_, by omega, by omega⟩
      rw [ei]
      simp -implicitDefEqProofs only [hn, go_sem, simprocAttr]
      try rfl
    · skip
      repeat' first
       | with_reducible refine Rl.go (by constructor <;> decide) ?_
       | ((with_reducible first | refine hK _ ?_ | refine hK.1 ?_ | refine hK.2 ?_); clear hK K)
       | ((with_reducible refine condS hK (fun hg => ?_) fun hg => ?_) <;> clear hK K <;> (try simp only [hgW] at hg) <;> try (exfalso; omega))
       | ((first | ((with_reducible first | refine Rk.go k18_VsLSame (by constructor) ?_ | refine Rd.go 6 k18_VsLSame a18_6_VsLSame o18_6_VsLSame mixed (by constructor) (by kernel_rfl) (by kernel_rfl) ?_ | refine Rd.go 11 k18_VsLSame a18_11_VsLSame o18_11_VsLSame mixed (by constructor) (by kernel_rfl) (by kernel_rfl) ?_ | refine Rd.go 16 k18_VsLSame a18_16_VsLSame o18_16_VsLSame mixed (by constructor) (by kernel_rfl) (by kernel_rfl) ?_); intro K hK) | with_reducible refine Rr.go [] (by constructor) ?_ | (with_reducible refine guardP_split (fun hg => ?_) fun hg => ?_) <;> (try simp only [hg]) <;> (try simp only [hgW] at hg)) <;> simp -implicitDefEqProofs only [hx, JN.av, i64n, hn, go_sem, simprocAttr] <;> try (simp (disch := omega) only [wrW]; try simp -implicitDefEqProofs only [hx, JN.av, i64n, hn, go_sem, simprocAttr]))
       | with_reducible refine And.intro (by first | omega | (simp only [hgW]; omega)) ?_
       | (exfalso; omega)
      refine ⟨m + 1, ?_, by omega, by omega⟩
      rw [em]
      simp -implicitDefEqProofs only [hn, go_sem, simprocAttr]
      try rfl
  · skip
    repeat' first
     | with_reducible refine Rl.go (by constructor <;> decide) ?_
     | ((with_reducible first | refine hK _ ?_ | refine hK.1 ?_ | refine hK.2 ?_); clear hK K)
     | ((with_reducible refine condS hK (fun hg => ?_) fun hg => ?_) <;> clear hK K <;> (try simp only [hgW] at hg) <;> try (exfalso; omega))
     | ((first | ((with_reducible first | refine Rk.go k18_VsLSame (by constructor) ?_ | refine Rd.go 6 k18_VsLSame a18_6_VsLSame o18_6_VsLSame mixed (by constructor) (by kernel_rfl) (by kernel_rfl) ?_ | refine Rd.go 11 k18_VsLSame a18_11_VsLSame o18_11_VsLSame mixed (by constructor) (by kernel_rfl) (by kernel_rfl) ?_ | refine Rd.go 16 k18_VsLSame a18_16_VsLSame o18_16_VsLSame mixed (by constructor) (by kernel_rfl) (by kernel_rfl) ?_); intro K hK) | with_reducible refine Rr.go [] (by constructor) ?_ | (with_reducible refine guardP_split (fun hg => ?_) fun hg => ?_) <;> (try simp only [hg]) <;> (try simp only [hgW] at hg)) <;> simp -implicitDefEqProofs only [hx, JN.av, hn, go_sem, simprocAttr] <;> try (simp (disch := omega) only [wrW]; try simp -implicitDefEqProofs only [hx, JN.av, hn, go_sem, simprocAttr]))
     | with_reducible refine And.intro (by first | omega | (simp only [hgW]; omega)) ?_
     | (exfalso; omega)
    refine ⟨k + 1, ?_, by omega, by omega⟩
    rw [ek]
    simp -implicitDefEqProofs only [hn, go_sem, simprocAttr]
    try rfl
end Go.Proofs.YtfemncfhiihckaaDoor
