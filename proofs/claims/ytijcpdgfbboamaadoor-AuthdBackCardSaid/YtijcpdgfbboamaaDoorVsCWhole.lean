/- What Decode and Whole come to. -/
import Derived.Test.YtijcpdgfbboamaaDoorVsCItem3
open Go Go.VS
namespace Go.Proofs.YtijcpdgfbboamaaDoor
set_option linter.unusedVariables false
set_option linter.unusedSimpArgs false
set_option maxRecDepth 20000
set_option maxHeartbeats 4000000
/-- The item with which bytes begin, and what is left; or why there is none. -/
def decS (valid : List UInt8 → Bool) (b : List UInt8) : CI × Option (List UInt8) × Nat :=
  if 8192 < b.length then (.zero, none, 3)
  else
    let r := itemS valid 8 ⟨b, 0, 0⟩
    if r.2.err ≠ 0 then (.zero, none, r.2.err) else (r.1, some r.2.b, 0)
def restAV : Option (List UInt8) → AV
  | none => .sl none true 1 []
  | some l => .sl none false 1 (l.map u8)
def wholeS (valid : List UInt8 → Bool) (b : List UInt8) : CI × Nat :=
  let d := decS valid b
  if d.2.2 ≠ 0 then (.zero, d.2.2) else if (d.2.1.getD []) ≠ [] then (.zero, 20) else (d.1, 0)
def k26_VsCDec : List Nat := [0,2,3,4,5,6,9,20]
def p26_6_VsCDec : List Nat := [2]
def a26_6_VsCDec : List Nat := [0,0,2,6,14,1,33,127]
def o26_6_VsCDec : List (List Nat) := [[1,2,3,4,0,5,6,7],[0,5,1,2,3,4,6,7]]
def a26_7_VsCDec : List Nat := [0,0,2,6,14,30,63,127,255]
def o26_7_VsCDec : List Nat := [1,2,3,4,5,0,6,7,8]
attribute [go_sem] k26_VsCDec p26_6_VsCDec a26_6_VsCDec o26_6_VsCDec a26_7_VsCDec o26_7_VsCDec
theorem f26_ok {valid : List UInt8 → Bool} (hv : ValidOk valid) (nb : Bool) (b : List UInt8) (hnb : nb = true → b = []) :
    CallsP Tryd.prog 26 [.sl none nb 1 (b.map u8)] (.tup [(decS valid b).1.av, restAV (decS valid b).2.1, .int .i64 ((decS valid b).2.2 : Int)]) := by
  by_cases hlong : 8192 < b.length
  · have e : decS valid b = (.zero, none, 3) := by unfold decS; rw [if_pos hlong]
    rw [e]
    refine CallsP.introF Tryd.func26 rfl (by show 1 ≤ 32; decide) ?_
    rintro X hX
    have hn : X.n = 32 := hX
    unfold Tryd.f26
    dsimp only
    rw [entryB_0, entry1]
    repeat' first
     | with_reducible refine Rl.go (by constructor <;> decide) ?_
     | ((with_reducible first | refine hK _ ?_ | refine hK.1 ?_ | refine hK.2 ?_); clear hK K)
     | ((with_reducible refine condS hK (fun hg => ?_) fun hg => ?_) <;> clear hK K <;> (try simp only [hgW] at hg) <;> try (exfalso; omega))
     | ((first | ((with_reducible first | refine Rk.go k26_VsCDec (by constructor) ?_ | refine Rm.go 6 k26_VsCDec p26_6_VsCDec a26_6_VsCDec o26_6_VsCDec mixed (by constructor) (by kernel_rfl) (by kernel_rfl) (by with_unfolding_all rfl) ?_ | refine Rd.go 7 k26_VsCDec a26_7_VsCDec o26_7_VsCDec mixed (by constructor) (by kernel_rfl) (by kernel_rfl) ?_); intro K hK) | with_reducible refine Rr.go [] (by constructor) ?_ | (with_reducible refine guardP_split (fun hg => ?_) fun hg => ?_) <;> (try simp only [hg]) <;> (try simp only [hgW] at hg)) <;> simp -implicitDefEqProofs only [zero_av, restAV, Int.cast_ofNat_Int, hn, go_sem, simprocAttr] <;> try simp (disch := omega) only [wrW])
     | with_reducible refine And.intro (by first | omega | (simp only [hgW]; omega)) ?_
     | (exfalso; omega)
  have c39 := f39_ok hv 8 (by omega) ⟨b, 0, 0⟩ nb hnb (by simp only; omega) (by simp only; omega)
  obtain ⟨p, hp⟩ : ∃ p, itemS valid 8 ⟨b, 0, 0⟩ = p := ⟨_, rfl⟩
  have hlen := (itemS_keeps valid 8).len ⟨b, 0, 0⟩
  have e : decS valid b = if p.2.err ≠ 0 then (.zero, none, p.2.err) else (p.1, some p.2.b, 0) := by unfold decS; rw [if_neg hlong, ← hp]
  have hnb2 : p.2.err = 0 → nb = false := fun h => by
    cases nb with
    | false => rfl
    | true =>
      exfalso
      have hb := hnb rfl
      subst hb
      rw [← hp, itemS_eq, if_neg (by decide), if_pos (show (headS { (⟨[], 0, 0⟩ : RS) with items := (⟨[], 0, 0⟩ : RS).items + 1 }).2.2.err ≠ 0 by decide)] at h
      exact absurd h (by decide)
  rw [hp] at c39 hlen
  obtain ⟨⟨ki, ni, bni, bi, kni, kids⟩, ⟨b', items', err'⟩⟩ := p
  simp only at c39 e hnb2 hlen
  rw [e]
  by_cases he : err' = 0
  · subst he
    have hf := hnb2 rfl
    subst hf
    rw [if_neg (by simp)]
    have c40 := f40_ok (b'.map u8) (by rw [List.length_map]; omega)
    refine CallsP.introF Tryd.func26 rfl (by show 1 ≤ 32; decide) ?_
    rintro X hX
    have hn : X.n = 32 := hX
    unfold Tryd.f26
    dsimp only
    rw [entryB_0, entry1]
    repeat' first
     | with_reducible refine Rl.go (by constructor <;> decide) ?_
     | ((with_reducible first | refine hK _ ?_ | refine hK.1 ?_ | refine hK.2 ?_); clear hK K)
     | ((with_reducible refine condS hK (fun hg => ?_) fun hg => ?_) <;> clear hK K <;> (try simp only [hgW] at hg) <;> try (exfalso; omega))
     | ((with_reducible refine callE_B3 c39 ?_); simp -implicitDefEqProofs only [eqOk_true, RS.cells, av_mk, zero_av, restAV, Int.cast_ofNat_Int, hn, go_sem, simprocAttr]; (skip; try simp (disch := omega) only [wrW]); fail_if_success (with_reducible refine eqOk_mk ?_))
     | ((first | ((with_reducible first | refine Rk.go k26_VsCDec (by constructor) ?_ | refine Rm.go 6 k26_VsCDec p26_6_VsCDec a26_6_VsCDec o26_6_VsCDec mixed (by constructor) (by kernel_rfl) (by kernel_rfl) (by with_unfolding_all rfl) ?_ | refine Rd.go 7 k26_VsCDec a26_7_VsCDec o26_7_VsCDec mixed (by constructor) (by kernel_rfl) (by kernel_rfl) ?_); intro K hK) | with_reducible refine Rr.go [] (by constructor) ?_ | (with_reducible refine guardP_split (fun hg => ?_) fun hg => ?_) <;> (try simp only [hg]) <;> (try simp only [hgW] at hg) | refine Rc.go c40 (by constructor) ?_) <;> simp -implicitDefEqProofs only [RS.cells, av_mk, zero_av, restAV, Int.cast_ofNat_Int, hn, go_sem, simprocAttr] <;> try simp (disch := omega) only [wrW])
     | with_reducible refine And.intro (by first | omega | (simp only [hgW]; omega)) ?_
     | (exfalso; omega)
  · rw [if_pos he]
    refine CallsP.introF Tryd.func26 rfl (by show 1 ≤ 32; decide) ?_
    rintro X hX
    have hn : X.n = 32 := hX
    unfold Tryd.f26
    dsimp only
    rw [entryB_0, entry1]
    repeat' first
     | with_reducible refine Rl.go (by constructor <;> decide) ?_
     | ((with_reducible first | refine hK _ ?_ | refine hK.1 ?_ | refine hK.2 ?_); clear hK K)
     | ((with_reducible refine condS hK (fun hg => ?_) fun hg => ?_) <;> clear hK K <;> (try simp only [hgW] at hg) <;> try (exfalso; omega))
     | ((with_reducible refine callE_B3 c39 ?_); simp -implicitDefEqProofs only [eqOk_true, RS.cells, av_mk, zero_av, restAV, Int.cast_ofNat_Int, hn, go_sem, simprocAttr]; (skip; try simp (disch := omega) only [wrW]); fail_if_success (with_reducible refine eqOk_mk ?_))
     | ((first | ((with_reducible first | refine Rk.go k26_VsCDec (by constructor) ?_ | refine Rm.go 6 k26_VsCDec p26_6_VsCDec a26_6_VsCDec o26_6_VsCDec mixed (by constructor) (by kernel_rfl) (by kernel_rfl) (by with_unfolding_all rfl) ?_ | refine Rd.go 7 k26_VsCDec a26_7_VsCDec o26_7_VsCDec mixed (by constructor) (by kernel_rfl) (by kernel_rfl) ?_); intro K hK) | with_reducible refine Rr.go [] (by constructor) ?_ | (with_reducible refine guardP_split (fun hg => ?_) fun hg => ?_) <;> (try simp only [hg]) <;> (try simp only [hgW] at hg)) <;> simp -implicitDefEqProofs only [RS.cells, av_mk, zero_av, restAV, Int.cast_ofNat_Int, hn, go_sem, simprocAttr] <;> try simp (disch := omega) only [wrW])
     | with_reducible refine And.intro (by first | omega | (simp only [hgW]; omega)) ?_
     | (exfalso; omega)
end Go.Proofs.YtijcpdgfbboamaaDoor
open Go Go.VS
namespace Go.Proofs.YtijcpdgfbboamaaDoor
set_option linter.unusedVariables false
set_option linter.unusedSimpArgs false
set_option maxRecDepth 20000
set_option maxHeartbeats 4000000
def k21_VsCWhole : List Nat := [0,2,3,4,5,6,14,19]
attribute [go_sem] k21_VsCWhole
theorem f21_ok {valid : List UInt8 → Bool} (hv : ValidOk valid) (nb : Bool) (b : List UInt8) (hnb : nb = true → b = []) (hbl : b.length ≤ 100000) :
    CallsP Tryd.prog 21 [.sl none nb 1 (b.map u8)] (.tup [(wholeS valid b).1.av, .int .i64 ((wholeS valid b).2 : Int)]) := by
  have c26 := f26_ok hv nb b hnb
  obtain ⟨d, hd⟩ : ∃ d, decS valid b = d := ⟨_, rfl⟩
  have e : wholeS valid b = if d.2.2 ≠ 0 then (.zero, d.2.2) else if (d.2.1.getD []) ≠ [] then (.zero, 20) else (d.1, 0) := by unfold wholeS; rw [hd]
  rw [e]
  rw [hd] at c26
  obtain ⟨⟨ki, ni, bni, bi, kni, kids⟩, o, err⟩ := d
  simp only at c26 ⊢
  by_cases he : err = 0
  · subst he
    rw [if_neg (by simp)]
    cases o with
    | none =>
      simp only [Option.getD_none, ne_eq, not_true_eq_false, if_false]
      simp only [restAV, av_mk] at c26
      refine CallsP.introF Tryd.func21 rfl (by show 1 ≤ 22; decide) ?_
      rintro X hX
      have hn : X.n = 22 := hX
      unfold Tryd.f21
      dsimp only
      rw [entryB_0, entry1]
      repeat' first
       | with_reducible refine Rl.go (by constructor <;> decide) ?_
       | ((with_reducible first | refine hK _ ?_ | refine hK.1 ?_ | refine hK.2 ?_); clear hK K)
       | ((with_reducible refine condS hK (fun hg => ?_) fun hg => ?_) <;> clear hK K <;> (try simp only [hgW] at hg) <;> try (exfalso; omega))
       | ((first | ((with_reducible first | refine Rk.go k21_VsCWhole (by constructor) ?_); intro K hK) | with_reducible refine Rr.go [] (by constructor) ?_ | (with_reducible refine guardP_split (fun hg => ?_) fun hg => ?_) <;> (try simp only [hg]) <;> (try simp only [hgW] at hg) | refine Rc.go c26 (by constructor) ?_) <;> simp -implicitDefEqProofs only [av_mk, zero_av, Int.cast_ofNat_Int, hn, go_sem, simprocAttr] <;> try simp (disch := omega) only [wrW])
       | with_reducible refine And.intro (by first | omega | (simp only [hgW]; omega)) ?_
       | (exfalso; omega)
    | some l =>
      simp only [Option.getD_some]
      simp only [restAV, av_mk] at c26
      by_cases hl : l = []
      · rw [if_neg (fun h => h hl)]
        have hl0 : l.length = 0 := by rw [hl]; rfl
        refine CallsP.introF Tryd.func21 rfl (by show 1 ≤ 22; decide) ?_
        rintro X hX
        have hn : X.n = 22 := hX
        unfold Tryd.f21
        dsimp only
        rw [entryB_0, entry1]
        repeat' first
         | with_reducible refine Rl.go (by constructor <;> decide) ?_
         | ((with_reducible first | refine hK _ ?_ | refine hK.1 ?_ | refine hK.2 ?_); clear hK K)
         | ((with_reducible refine condS hK (fun hg => ?_) fun hg => ?_) <;> clear hK K <;> (try simp only [hgW] at hg) <;> try (exfalso; omega))
         | ((first | ((with_reducible first | refine Rk.go k21_VsCWhole (by constructor) ?_); intro K hK) | with_reducible refine Rr.go [] (by constructor) ?_ | (with_reducible refine guardP_split (fun hg => ?_) fun hg => ?_) <;> (try simp only [hg]) <;> (try simp only [hgW] at hg) | refine Rc.go c26 (by constructor) ?_) <;> simp -implicitDefEqProofs only [av_mk, zero_av, Int.cast_ofNat_Int, hn, go_sem, simprocAttr] <;> try simp (disch := omega) only [wrW])
         | with_reducible refine And.intro (by first | omega | (simp only [hgW]; omega)) ?_
         | (exfalso; omega)
      · rw [if_pos hl]
        have hl0 : 0 < l.length := List.length_pos_iff.2 hl
        refine CallsP.introF Tryd.func21 rfl (by show 1 ≤ 22; decide) ?_
        rintro X hX
        have hn : X.n = 22 := hX
        unfold Tryd.f21
        dsimp only
        rw [entryB_0, entry1]
        repeat' first
         | with_reducible refine Rl.go (by constructor <;> decide) ?_
         | ((with_reducible first | refine hK _ ?_ | refine hK.1 ?_ | refine hK.2 ?_); clear hK K)
         | ((with_reducible refine condS hK (fun hg => ?_) fun hg => ?_) <;> clear hK K <;> (try simp only [hgW] at hg) <;> try (exfalso; omega))
         | ((first | ((with_reducible first | refine Rk.go k21_VsCWhole (by constructor) ?_); intro K hK) | with_reducible refine Rr.go [] (by constructor) ?_ | (with_reducible refine guardP_split (fun hg => ?_) fun hg => ?_) <;> (try simp only [hg]) <;> (try simp only [hgW] at hg) | refine Rc.go c26 (by constructor) ?_) <;> simp -implicitDefEqProofs only [av_mk, zero_av, Int.cast_ofNat_Int, hn, go_sem, simprocAttr] <;> try simp (disch := omega) only [wrW])
         | with_reducible refine And.intro (by first | omega | (simp only [hgW]; omega)) ?_
         | (exfalso; omega)
  · rw [if_pos he]
    cases o with
    | none =>
      simp only [restAV, av_mk] at c26
      refine CallsP.introF Tryd.func21 rfl (by show 1 ≤ 22; decide) ?_
      rintro X hX
      have hn : X.n = 22 := hX
      unfold Tryd.f21
      dsimp only
      rw [entryB_0, entry1]
      repeat' first
       | with_reducible refine Rl.go (by constructor <;> decide) ?_
       | ((with_reducible first | refine hK _ ?_ | refine hK.1 ?_ | refine hK.2 ?_); clear hK K)
       | ((with_reducible refine condS hK (fun hg => ?_) fun hg => ?_) <;> clear hK K <;> (try simp only [hgW] at hg) <;> try (exfalso; omega))
       | ((first | ((with_reducible first | refine Rk.go k21_VsCWhole (by constructor) ?_); intro K hK) | with_reducible refine Rr.go [] (by constructor) ?_ | (with_reducible refine guardP_split (fun hg => ?_) fun hg => ?_) <;> (try simp only [hg]) <;> (try simp only [hgW] at hg) | refine Rc.go c26 (by constructor) ?_) <;> simp -implicitDefEqProofs only [av_mk, zero_av, Int.cast_ofNat_Int, hn, go_sem, simprocAttr] <;> try simp (disch := omega) only [wrW])
       | with_reducible refine And.intro (by first | omega | (simp only [hgW]; omega)) ?_
       | (exfalso; omega)
    | some l =>
      simp only [restAV, av_mk] at c26
      refine CallsP.introF Tryd.func21 rfl (by show 1 ≤ 22; decide) ?_
      rintro X hX
      have hn : X.n = 22 := hX
      unfold Tryd.f21
      dsimp only
      rw [entryB_0, entry1]
      repeat' first
       | with_reducible refine Rl.go (by constructor <;> decide) ?_
       | ((with_reducible first | refine hK _ ?_ | refine hK.1 ?_ | refine hK.2 ?_); clear hK K)
       | ((with_reducible refine condS hK (fun hg => ?_) fun hg => ?_) <;> clear hK K <;> (try simp only [hgW] at hg) <;> try (exfalso; omega))
       | ((first | ((with_reducible first | refine Rk.go k21_VsCWhole (by constructor) ?_); intro K hK) | with_reducible refine Rr.go [] (by constructor) ?_ | (with_reducible refine guardP_split (fun hg => ?_) fun hg => ?_) <;> (try simp only [hg]) <;> (try simp only [hgW] at hg) | refine Rc.go c26 (by constructor) ?_) <;> simp -implicitDefEqProofs only [av_mk, zero_av, Int.cast_ofNat_Int, hn, go_sem, simprocAttr] <;> try simp (disch := omega) only [wrW])
       | with_reducible refine And.intro (by first | omega | (simp only [hgW]; omega)) ?_
       | (exfalso; omega)
end Go.Proofs.YtijcpdgfbboamaaDoor
