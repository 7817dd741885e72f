/- What the document's writer makes of groups, by depth. -/
import Derived.Test.YtijcpdgfbboamaaDoorVsCRWI
open Go Go.VS
namespace Go.Proofs.YtijcpdgfbboamaaDoor
set_option linter.unusedVariables false
set_option linter.unusedSimpArgs false
set_option maxRecDepth 20000
set_option maxHeartbeats 4000000
/-- The contract of one item that the document writes, at a depth. -/
def ItRW (it : CI → WS → Nat × WS) (d D : Nat) : Prop := ∀ (x : CI) (s : WS), Fit d x → s.Ok → CallsB Tryd.prog 35 [.ptr 1000000 0, x.av, .int .i64 (D : Int)] [s.cellsR 0 (4, 0)] (.tup []) [(it x s).2.cellsR (it x s).1 (3, 0)]
structure GrpRW (it : CI → WS → Nat × WS) (pair : Bool) (ks : List CI) (R : Nat × WS) (x : Nat × WS × Nat) : Prop where
  le : x.1 ≤ ks.length
  go : x.2.2 = 0 → kidsW it badA pair ks (ks.length - x.1) x.1 x.2.1 = R ∧ x.2.1.Ok
  stop : x.2.2 ≠ 0 → R = (x.2.2, x.2.1)
def k35_VsCRWG : List Nat := [0,1,2,4,6,7,8,13,28,48,58,65,85,98,107,119,132,151,168,197,203]
def a35_24_VsCRWG : List Nat := [0,0,2,6,14,0,32,96,224,480,992,2016,4094,8191,16383,32767]
def o35_24_VsCRWG : List Nat := [5,6,7,8,9,10,11,1,2,3,4,12,0,13,14,15]
def a35_29_VsCRWG : List Nat := [0,0,2,6,14,0,32,126,255,511,1023]
def o35_29_VsCRWG : List Nat := [1,2,3,4,5,6,7,0,8,9,10]
def a35_14_VsCRWG : List Nat := [0,1,3,7,15,7,39,127,255,7,519,7,3591,7687,16383,32767,65535]
def o35_14_VsCRWG : List Nat := [0,1,2,3,4,5,6,7,8,9,10,11,12,13,14,15,16]
attribute [go_sem] k35_VsCRWG a35_24_VsCRWG o35_24_VsCRWG a35_29_VsCRWG o35_29_VsCRWG a35_14_VsCRWG o35_14_VsCRWG
theorem f35_grp {it : CI → WS → Nat × WS} (d D : Nat) (hD : D + 1 ≤ 8) (hit : ItRW it d (D + 1)) (K : ∀ x s, Fit d x → s.Ok → (it x s).1 = 0 → (it x s).2.Ok) (x : CI) (hf : Fit (d + 1) x) (s : WS) (hs : s.Ok) (h : s.items + 1 ≤ 512) (N : Nat)
    (hN : (x.k = 5 ∧ N = x.ks.length) ∨ (x.k = 6 ∧ x.ks.length = 2 * N)) (hp : (WS.put { s with items := s.items + 1 } (hdW (x.k - 1) N)).Ok) (P : Bool) (hP : P = decide (x.k = 6)) :
    CallsB Tryd.prog 35 [.ptr 1000000 0, x.av, .int .i64 (D : Int)] [s.cellsR 0 (4, 0)] (.tup []) [(kidsW it badA P x.ks x.ks.length 0 (WS.put { s with items := s.items + 1 } (hdW (x.k - 1) N))).2.cellsR (kidsW it badA P x.ks x.ks.length 0 (WS.put { s with items := s.items + 1 } (hdW (x.k - 1) N))).1 (3, 0)] := by
  obtain ⟨R, hR⟩ : ∃ R, kidsW it badA P x.ks x.ks.length 0 (WS.put { s with items := s.items + 1 } (hdW (x.k - 1) N)) = R := ⟨_, rfl⟩
  rw [hR]
  obtain ⟨f1, f2, f3, f4, f5⟩ := hf.here
  have hf' := hf.2
  have c45 := f45_ok (x.k - 1) N (by omega) (by omega) { s with items := s.items + 1 } 0 (by have := hs.2; simp only; omega)
  obtain ⟨ki, ni, bni, bi, kni, kids⟩ := x
  simp only [CI.k, CI.ks] at *
  have hk1 : ((ki - 1 : Nat) : Int) = (ki : Int) - 1 := by omega
  have hd1 : (D : Int) + 1 = ((D + 1 : Nat) : Int) := by omega
  have hr : ki = 6 → (kids.length : Int) % 2 = 0 := by omega
  have hq2 : ki = 6 → (kids.length : Int) / 2 = (N : Int) := by omega
  generalize hq : WS.put { s with items := s.items + 1 } (hdW (ki - 1) N) = q at *
  obtain ⟨b, items⟩ := s
  obtain ⟨b', items'⟩ := q
  obtain ⟨er', sR⟩ := R
  obtain ⟨bR, iR⟩ := sR
  have e1 : ((items + 1 : Nat) : Int) = (items : Int) + 1 := by omega
  simp only at h
  rw [av_mk']
  have h56 : ki = 5 ∨ ki = 6 := by omega
  rcases h56 with rfl | rfl
  · obtain rfl : N = kids.length := by omega
    have hPf : P = false := by rw [hP]; rfl
    subst hPf
    refine CallsB.introF Tryd.func35 rfl (by show 3 ≤ 215; decide) ?_
    rintro X hX
    have hn : X.n = 215 := hX
    unfold Tryd.f35
    dsimp only
    rw [entryB31]
    repeat' first
     | with_reducible refine Rl.go (by constructor <;> decide) ?_
     | ((with_reducible first | refine hK _ ?_ | refine hK.1 ?_ | refine hK.2 ?_); clear hK K)
     | ((with_reducible refine condS hK (fun hg => ?_) fun hg => ?_) <;> clear hK K <;> (try simp only [hgW] at hg) <;> try (exfalso; omega))
     | ((with_reducible refine callE_B3 c45 ?_); simp -implicitDefEqProofs only [eqOk_true, WS.cellsR, hk1, e1, Int.cast_ofNat_Int, hn, go_sem, simprocAttr]; (skip; try (simp (disch := omega) only [wrW]; try simp -implicitDefEqProofs only [WS.cellsR, hk1, e1, Int.cast_ofNat_Int, hn, go_sem, simprocAttr])); fail_if_success (with_reducible refine eqOk_mk ?_))
     | ((first | ((with_reducible first | refine Rk.go k35_VsCRWG (by constructor) ?_ | refine Rd.go 24 k35_VsCRWG a35_24_VsCRWG o35_24_VsCRWG mixed (by constructor) (by kernel_rfl) (by kernel_rfl) ?_ | refine Rd.go 29 k35_VsCRWG a35_29_VsCRWG o35_29_VsCRWG mixed (by constructor) (by kernel_rfl) (by kernel_rfl) ?_ | refine Rd.go 14 k35_VsCRWG a35_14_VsCRWG o35_14_VsCRWG mixed (by constructor) (by kernel_rfl) (by kernel_rfl) ?_); intro K hK) | with_reducible refine Rr.go [] (by constructor) ?_ | (with_reducible refine guardP_split (fun hg => ?_) fun hg => ?_) <;> (try simp only [hg]) <;> (try simp only [hgW] at hg)) <;> simp -implicitDefEqProofs only [WS.cellsR, hk1, e1, Int.cast_ofNat_Int, hn, go_sem, simprocAttr] <;> try (simp (disch := omega) only [wrW]; try simp -implicitDefEqProofs only [WS.cellsR, hk1, e1, Int.cast_ofNat_Int, hn, go_sem, simprocAttr]))
     | with_reducible refine And.intro (by first | omega | (simp only [hgW]; omega)) ?_
     | (exfalso; omega)
    refine AWP.loopX [0, 2, 4, 6, 8] [] (fun x : Nat × WS × Nat => St.mk (lk [(0, .ptr 1000000 0), (2, .int .i64 (D : Int)), (4, .ptr 4 0), (6, .int .i64 (kids.length : Int)), (8, .int .i64 (x.1 : Int))])
        (lkB [(1000000, x.2.1.cellsR x.2.2 (4, 0)), (4, [.int .u8 5, .int .u64 (ni : Int), .sl none bni 1 (bi.map u8), .sl none kni 4 (kids.map CI.av)])]) (hasS []) (hasS []) (hasN []) (lkR []))
      (GrpRW it false kids (er', ⟨bR, iR⟩)) (fun x => kids.length - x.1) (0, ⟨b', items'⟩, 0) ?_ ⟨Nat.zero_le _, fun _ => ⟨hR, hp⟩, fun h => absurd rfl h⟩ ?_
    · simp -implicitDefEqProofs only [WS.cellsR, Int.cast_ofNat_Int, hn, go_sem, simprocAttr]
      try rfl
    rintro ⟨k, ⟨b3, i3⟩, code⟩ ⟨x1, x2, x3⟩
    simp only at x1 x2 x3
    by_cases hco : code = 0
    · subst hco
      obtain ⟨y1, y2⟩ := x2 rfl
      by_cases hkn : k = kids.length
      · subst hkn
        rw [Nat.sub_self] at y1
        simp only [kidsW] at y1
        cases y1
        repeat' first
         | with_reducible refine Rl.go (by constructor <;> decide) ?_
         | ((with_reducible first | refine hK _ ?_ | refine hK.1 ?_ | refine hK.2 ?_); clear hK K)
         | ((with_reducible refine condS hK (fun hg => ?_) fun hg => ?_) <;> clear hK K <;> (try simp only [hgW] at hg) <;> try (exfalso; omega))
         | ((first | ((with_reducible first | refine Rk.go k35_VsCRWG (by constructor) ?_ | refine Rd.go 24 k35_VsCRWG a35_24_VsCRWG o35_24_VsCRWG mixed (by constructor) (by kernel_rfl) (by kernel_rfl) ?_ | refine Rd.go 29 k35_VsCRWG a35_29_VsCRWG o35_29_VsCRWG mixed (by constructor) (by kernel_rfl) (by kernel_rfl) ?_ | refine Rd.go 14 k35_VsCRWG a35_14_VsCRWG o35_14_VsCRWG mixed (by constructor) (by kernel_rfl) (by kernel_rfl) ?_); intro K hK) | with_reducible refine Rr.go [] (by constructor) ?_ | (with_reducible refine guardP_split (fun hg => ?_) fun hg => ?_) <;> (try simp only [hg]) <;> (try simp only [hgW] at hg)) <;> simp -implicitDefEqProofs only [WS.cellsR, Int.cast_ofNat_Int, hn, go_sem, simprocAttr] <;> try (simp (disch := omega) only [wrW]; try simp -implicitDefEqProofs only [WS.cellsR, Int.cast_ofNat_Int, hn, go_sem, simprocAttr]))
         | with_reducible refine And.intro (by first | omega | (simp only [hgW]; omega)) ?_
         | (exfalso; omega)
      obtain ⟨y, hy⟩ : ∃ y, kids.getD k default = y := ⟨_, rfl⟩
      have hym : y ∈ kids := by
        rw [← hy, List.getD_eq_getElem?_getD, List.getElem?_eq_getElem (by omega)]
        exact List.getElem_mem _
      have hx0 : kids.length - k = (kids.length - (k + 1)) + 1 := by omega
      rw [hx0] at y1
      simp only [kidsW, hy] at y1
      rw [if_neg (by simp), if_neg (by simp)] at y1
      have c35 := hit y ⟨b3, i3⟩ (hf' y hym) y2
      have K2 := K y ⟨b3, i3⟩ (hf' y hym) y2
      have e2 : (k : Int) + 1 = ((k + 1 : Nat) : Int) := by omega
      generalize it y ⟨b3, i3⟩ = p at y1 c35 K2
      obtain ⟨er, b4, i4⟩ := p
      simp only at y1 c35 K2
      obtain ⟨yk, yn, ybn, yb, ykn, yks⟩ := y
      rw [av_mk'] at c35
      repeat' first
       | with_reducible refine Rl.go (by constructor <;> decide) ?_
       | ((with_reducible first | refine hK _ ?_ | refine hK.1 ?_ | refine hK.2 ?_); clear hK K)
       | ((with_reducible refine condS hK (fun hg => ?_) fun hg => ?_) <;> clear hK K <;> (try simp only [hgW] at hg) <;> try (exfalso; omega))
       | ((with_reducible refine callE_B3 c35 ?_); simp -implicitDefEqProofs only [eqOk_true, WS.cellsR, hy, av_mk', hd1, Int.cast_ofNat_Int, hn, go_sem, simprocAttr]; (skip; try (simp (disch := omega) only [wrW]; try simp -implicitDefEqProofs only [WS.cellsR, hy, av_mk', hd1, Int.cast_ofNat_Int, hn, go_sem, simprocAttr])); fail_if_success (with_reducible refine eqOk_mk ?_))
       | ((first | ((with_reducible first | refine Rk.go k35_VsCRWG (by constructor) ?_ | refine Rd.go 24 k35_VsCRWG a35_24_VsCRWG o35_24_VsCRWG mixed (by constructor) (by kernel_rfl) (by kernel_rfl) ?_ | refine Rd.go 29 k35_VsCRWG a35_29_VsCRWG o35_29_VsCRWG mixed (by constructor) (by kernel_rfl) (by kernel_rfl) ?_ | refine Rd.go 14 k35_VsCRWG a35_14_VsCRWG o35_14_VsCRWG mixed (by constructor) (by kernel_rfl) (by kernel_rfl) ?_); intro K hK) | with_reducible refine Rr.go [] (by constructor) ?_ | (with_reducible refine guardP_split (fun hg => ?_) fun hg => ?_) <;> (try simp only [hg]) <;> (try simp only [hgW] at hg)) <;> simp -implicitDefEqProofs only [WS.cellsR, hy, av_mk', hd1, Int.cast_ofNat_Int, hn, go_sem, simprocAttr] <;> try (simp (disch := omega) only [wrW]; try simp -implicitDefEqProofs only [WS.cellsR, hy, av_mk', hd1, Int.cast_ofNat_Int, hn, go_sem, simprocAttr]))
       | with_reducible refine And.intro (by first | omega | (simp only [hgW]; omega)) ?_
       | (exfalso; omega)
      refine ⟨(k + 1, ⟨b4, i4⟩, er), ?_, ⟨by simp only; omega, fun h => ?_, fun h => ?_⟩, by simp only; omega⟩
      · rw [e2]
        simp -implicitDefEqProofs only [WS.cellsR, Int.cast_ofNat_Int, hn, go_sem, simprocAttr]
        try rfl
      · rw [if_neg (by simpa using h)] at y1
        exact ⟨y1, K2 h⟩
      · rw [if_pos h] at y1
        exact y1.symm
    · have hx := x3 hco
      cases hx
      repeat' first
       | with_reducible refine Rl.go (by constructor <;> decide) ?_
       | ((with_reducible first | refine hK _ ?_ | refine hK.1 ?_ | refine hK.2 ?_); clear hK K)
       | ((with_reducible refine condS hK (fun hg => ?_) fun hg => ?_) <;> clear hK K <;> (try simp only [hgW] at hg) <;> try (exfalso; omega))
       | ((first | ((with_reducible first | refine Rk.go k35_VsCRWG (by constructor) ?_ | refine Rd.go 24 k35_VsCRWG a35_24_VsCRWG o35_24_VsCRWG mixed (by constructor) (by kernel_rfl) (by kernel_rfl) ?_ | refine Rd.go 29 k35_VsCRWG a35_29_VsCRWG o35_29_VsCRWG mixed (by constructor) (by kernel_rfl) (by kernel_rfl) ?_ | refine Rd.go 14 k35_VsCRWG a35_14_VsCRWG o35_14_VsCRWG mixed (by constructor) (by kernel_rfl) (by kernel_rfl) ?_); intro K hK) | with_reducible refine Rr.go [] (by constructor) ?_ | (with_reducible refine guardP_split (fun hg => ?_) fun hg => ?_) <;> (try simp only [hg]) <;> (try simp only [hgW] at hg)) <;> simp -implicitDefEqProofs only [WS.cellsR, Int.cast_ofNat_Int, hn, go_sem, simprocAttr] <;> try (simp (disch := omega) only [wrW]; try simp -implicitDefEqProofs only [WS.cellsR, Int.cast_ofNat_Int, hn, go_sem, simprocAttr]))
       | with_reducible refine And.intro (by first | omega | (simp only [hgW]; omega)) ?_
       | (exfalso; omega)
  · have hPt : P = true := by rw [hP]; rfl
    subst hPt
    have hr := hr rfl
    have hq2 := hq2 rfl
    refine CallsB.introF Tryd.func35 rfl (by show 3 ≤ 215; decide) ?_
    rintro X hX
    have hn : X.n = 215 := hX
    unfold Tryd.f35
    dsimp only
    rw [entryB31]
    repeat' first
     | with_reducible refine Rl.go (by constructor <;> decide) ?_
     | ((with_reducible first | refine hK _ ?_ | refine hK.1 ?_ | refine hK.2 ?_); clear hK K)
     | ((with_reducible refine condS hK (fun hg => ?_) fun hg => ?_) <;> clear hK K <;> (try simp only [hgW] at hg) <;> try (exfalso; omega))
     | ((with_reducible refine callE_B3 c45 ?_); simp -implicitDefEqProofs only [eqOk_true, WS.cellsR, hk1, e1, hr, hq2, Int.cast_ofNat_Int, hn, go_sem, simprocAttr]; (skip; try (simp (disch := omega) only [wrW]; try simp -implicitDefEqProofs only [WS.cellsR, hk1, e1, hr, hq2, Int.cast_ofNat_Int, hn, go_sem, simprocAttr])); fail_if_success (with_reducible refine eqOk_mk ?_))
     | ((first | ((with_reducible first | refine Rk.go k35_VsCRWG (by constructor) ?_ | refine Rd.go 24 k35_VsCRWG a35_24_VsCRWG o35_24_VsCRWG mixed (by constructor) (by kernel_rfl) (by kernel_rfl) ?_ | refine Rd.go 29 k35_VsCRWG a35_29_VsCRWG o35_29_VsCRWG mixed (by constructor) (by kernel_rfl) (by kernel_rfl) ?_ | refine Rd.go 14 k35_VsCRWG a35_14_VsCRWG o35_14_VsCRWG mixed (by constructor) (by kernel_rfl) (by kernel_rfl) ?_); intro K hK) | with_reducible refine Rr.go [] (by constructor) ?_ | (with_reducible refine guardP_split (fun hg => ?_) fun hg => ?_) <;> (try simp only [hg]) <;> (try simp only [hgW] at hg)) <;> simp -implicitDefEqProofs only [WS.cellsR, hk1, e1, hr, hq2, Int.cast_ofNat_Int, hn, go_sem, simprocAttr] <;> try (simp (disch := omega) only [wrW]; try simp -implicitDefEqProofs only [WS.cellsR, hk1, e1, hr, hq2, Int.cast_ofNat_Int, hn, go_sem, simprocAttr]))
     | with_reducible refine And.intro (by first | omega | (simp only [hgW]; omega)) ?_
     | (exfalso; omega)
    refine AWP.loopX [0, 2, 4, 6, 8] [] (fun x : Nat × WS × Nat => St.mk (lk [(0, .ptr 1000000 0), (2, .int .i64 (D : Int)), (4, .ptr 4 0), (6, .int .i64 (kids.length : Int)), (8, .int .i64 (x.1 : Int))])
        (lkB [(1000000, x.2.1.cellsR x.2.2 (4, 0)), (4, [.int .u8 6, .int .u64 (ni : Int), .sl none bni 1 (bi.map u8), .sl none kni 4 (kids.map CI.av)])]) (hasS []) (hasS []) (hasN []) (lkR []))
      (GrpRW it true kids (er', ⟨bR, iR⟩)) (fun x => kids.length - x.1) (0, ⟨b', items'⟩, 0) ?_ ⟨Nat.zero_le _, fun _ => ⟨hR, hp⟩, fun h => absurd rfl h⟩ ?_
    · simp -implicitDefEqProofs only [WS.cellsR, Int.cast_ofNat_Int, hn, go_sem, simprocAttr]
      try rfl
    rintro ⟨k, ⟨b3, i3⟩, code⟩ ⟨x1, x2, x3⟩
    simp only at x1 x2 x3
    by_cases hco : code = 0
    · subst hco
      obtain ⟨y1, y2⟩ := x2 rfl
      by_cases hkn : k = kids.length
      · subst hkn
        rw [Nat.sub_self] at y1
        simp only [kidsW] at y1
        cases y1
        repeat' first
         | with_reducible refine Rl.go (by constructor <;> decide) ?_
         | ((with_reducible first | refine hK _ ?_ | refine hK.1 ?_ | refine hK.2 ?_); clear hK K)
         | ((with_reducible refine condS hK (fun hg => ?_) fun hg => ?_) <;> clear hK K <;> (try simp only [hgW] at hg) <;> try (exfalso; omega))
         | ((first | ((with_reducible first | refine Rk.go k35_VsCRWG (by constructor) ?_ | refine Rd.go 24 k35_VsCRWG a35_24_VsCRWG o35_24_VsCRWG mixed (by constructor) (by kernel_rfl) (by kernel_rfl) ?_ | refine Rd.go 29 k35_VsCRWG a35_29_VsCRWG o35_29_VsCRWG mixed (by constructor) (by kernel_rfl) (by kernel_rfl) ?_ | refine Rd.go 14 k35_VsCRWG a35_14_VsCRWG o35_14_VsCRWG mixed (by constructor) (by kernel_rfl) (by kernel_rfl) ?_); intro K hK) | with_reducible refine Rr.go [] (by constructor) ?_ | (with_reducible refine guardP_split (fun hg => ?_) fun hg => ?_) <;> (try simp only [hg]) <;> (try simp only [hgW] at hg)) <;> simp -implicitDefEqProofs only [WS.cellsR, Int.cast_ofNat_Int, hn, go_sem, simprocAttr] <;> try (simp (disch := omega) only [wrW]; try simp -implicitDefEqProofs only [WS.cellsR, Int.cast_ofNat_Int, hn, go_sem, simprocAttr]))
         | with_reducible refine And.intro (by first | omega | (simp only [hgW]; omega)) ?_
         | (exfalso; omega)
      obtain ⟨y, hy⟩ : ∃ y, kids.getD k default = y := ⟨_, rfl⟩
      have hym : y ∈ kids := by
        rw [← hy, List.getD_eq_getElem?_getD, List.getElem?_eq_getElem (by omega)]
        exact List.getElem_mem _
      have hx0 : kids.length - k = (kids.length - (k + 1)) + 1 := by omega
      rw [hx0] at y1
      simp only [kidsW, hy] at y1
      have c35 := hit y ⟨b3, i3⟩ (hf' y hym) y2
      have s20 := f35_stop (D + 1) y ⟨b3, i3⟩ 20 (by decide)
      have s21 := f35_stop (D + 1) y ⟨b3, i3⟩ 21 (by decide)
      have K2 := K y ⟨b3, i3⟩ (hf' y hym) y2
      have e2 : (k : Int) + 1 = ((k + 1 : Nat) : Int) := by omega
      obtain ⟨z, hz⟩ : ∃ z, kids.getD (k - 2) default = z := ⟨_, rfl⟩
      rw [hz] at y1
      have c46 := f46_ok y
      have c36 := f36_ok z y
      obtain ⟨o, ho⟩ : ∃ o, aheadS z y = o := ⟨_, rfl⟩
      have hbo : badA z y = !o := by unfold badA; rw [ho]
      rw [hbo] at y1
      rw [ho] at c36
      have hidx : ((k : Int) - 2).toNat = k - 2 := by omega
      have hidk : (k : Int).toNat = k := by omega
      obtain ⟨pl, hpl⟩ : ∃ pl, plainS y = pl := ⟨_, rfl⟩
      rw [hpl] at c46 y1
      generalize it y ⟨b3, i3⟩ = p at y1 c35 K2
      obtain ⟨er, b4, i4⟩ := p
      simp only at y1 c35 K2
      obtain ⟨yk, yn, ybn, yb, ykn, yks⟩ := y
      obtain ⟨zk, zn, zbn, zb, zkn, zks⟩ := z
      rw [av_mk'] at c35 c46 c36 s20 s21
      rw [av_mk'] at c36
      have tail : ∀ (bb : List UInt8) (ii cc : Nat), (cc = 0 → kidsW it badA true kids (kids.length - (k + 1)) (k + 1) ⟨bb, ii⟩ = (er', ⟨bR, iR⟩) ∧ (⟨bb, ii⟩ : WS).Ok) → (cc ≠ 0 → (er', (⟨bR, iR⟩ : WS)) = (cc, ⟨bb, ii⟩)) → GrpRW it true kids (er', ⟨bR, iR⟩) (k + 1, ⟨bb, ii⟩, cc) := fun bb ii cc h1 h2 => ⟨by simp only; omega, h1, h2⟩
      by_cases hA : k % 2 = 0 ∧ pl = false
      · obtain ⟨g1, g2⟩ := hA
        subst g2
        rw [if_pos ⟨trivial, g1, rfl⟩] at y1
        repeat' first
         | with_reducible refine Rl.go (by constructor <;> decide) ?_
         | ((with_reducible first | refine hK _ ?_ | refine hK.1 ?_ | refine hK.2 ?_); clear hK K)
         | ((with_reducible refine condS hK (fun hg => ?_) fun hg => ?_) <;> clear hK K <;> (try simp only [hgW] at hg) <;> try (exfalso; omega))
         | ((with_reducible refine callE_B3 s20 ?_); simp -implicitDefEqProofs only [eqOk_true, WS.cellsR, hy, av_mk', hd1, hidk, Int.cast_ofNat_Int, hn, go_sem, simprocAttr]; (skip; try (simp (disch := omega) only [wrW]; try simp -implicitDefEqProofs only [WS.cellsR, hy, av_mk', hd1, hidk, Int.cast_ofNat_Int, hn, go_sem, simprocAttr])); fail_if_success (with_reducible refine eqOk_mk ?_))
         | ((first | ((with_reducible first | refine Rk.go k35_VsCRWG (by constructor) ?_ | refine Rd.go 24 k35_VsCRWG a35_24_VsCRWG o35_24_VsCRWG mixed (by constructor) (by kernel_rfl) (by kernel_rfl) ?_ | refine Rd.go 29 k35_VsCRWG a35_29_VsCRWG o35_29_VsCRWG mixed (by constructor) (by kernel_rfl) (by kernel_rfl) ?_ | refine Rd.go 14 k35_VsCRWG a35_14_VsCRWG o35_14_VsCRWG mixed (by constructor) (by kernel_rfl) (by kernel_rfl) ?_); intro K hK) | with_reducible refine Rr.go [] (by constructor) ?_ | (with_reducible refine guardP_split (fun hg => ?_) fun hg => ?_) <;> (try simp only [hg]) <;> (try simp only [hgW] at hg) | refine Rc.go c46 (by constructor) ?_) <;> simp -implicitDefEqProofs only [WS.cellsR, hy, av_mk', hd1, hidk, Int.cast_ofNat_Int, hn, go_sem, simprocAttr] <;> try (simp (disch := omega) only [wrW]; try simp -implicitDefEqProofs only [WS.cellsR, hy, av_mk', hd1, hidk, Int.cast_ofNat_Int, hn, go_sem, simprocAttr]))
         | with_reducible refine And.intro (by first | omega | (simp only [hgW]; omega)) ?_
         | (exfalso; omega)
        refine ⟨(k + 1, ⟨b3, i3⟩, 20), ?_, tail _ _ _ (fun h => by cases h) (fun _ => y1.symm), by simp only; omega⟩
        rw [e2]
        simp -implicitDefEqProofs only [WS.cellsR, Int.cast_ofNat_Int, hn, go_sem, simprocAttr]
        try rfl
      rw [if_neg (fun hh => hA ⟨hh.2.1, hh.2.2⟩)] at y1
      by_cases hB : k % 2 = 0 ∧ 0 < k ∧ o = false
      · obtain ⟨g1, g2, g3⟩ := hB
        have hpt : pl = true := by
          cases pl with
          | true => rfl
          | false => exact absurd ⟨g1, rfl⟩ hA
        subst hpt
        subst g3
        rw [if_pos ⟨trivial, g1, g2, rfl⟩] at y1
        repeat' first
         | with_reducible refine Rl.go (by constructor <;> decide) ?_
         | ((with_reducible first | refine hK _ ?_ | refine hK.1 ?_ | refine hK.2 ?_); clear hK K)
         | ((with_reducible refine condS hK (fun hg => ?_) fun hg => ?_) <;> clear hK K <;> (try simp only [hgW] at hg) <;> try (exfalso; omega))
         | ((with_reducible refine callE_B3 s21 ?_); simp -implicitDefEqProofs only [eqOk_true, WS.cellsR, hy, hz, hidx, hidk, av_mk', hd1, Int.cast_ofNat_Int, hn, go_sem, simprocAttr]; (skip; try (simp (disch := omega) only [wrW]; try simp -implicitDefEqProofs only [WS.cellsR, hy, hz, hidx, hidk, av_mk', hd1, Int.cast_ofNat_Int, hn, go_sem, simprocAttr])); fail_if_success (with_reducible refine eqOk_mk ?_))
         | ((first | ((with_reducible first | refine Rk.go k35_VsCRWG (by constructor) ?_ | refine Rd.go 24 k35_VsCRWG a35_24_VsCRWG o35_24_VsCRWG mixed (by constructor) (by kernel_rfl) (by kernel_rfl) ?_ | refine Rd.go 29 k35_VsCRWG a35_29_VsCRWG o35_29_VsCRWG mixed (by constructor) (by kernel_rfl) (by kernel_rfl) ?_ | refine Rd.go 14 k35_VsCRWG a35_14_VsCRWG o35_14_VsCRWG mixed (by constructor) (by kernel_rfl) (by kernel_rfl) ?_); intro K hK) | with_reducible refine Rr.go [] (by constructor) ?_ | (with_reducible refine guardP_split (fun hg => ?_) fun hg => ?_) <;> (try simp only [hg]) <;> (try simp only [hgW] at hg) | refine Rc.go c46 (by constructor) ?_ | refine Rc.go c36 (by constructor) ?_) <;> simp -implicitDefEqProofs only [WS.cellsR, hy, hz, hidx, hidk, av_mk', hd1, Int.cast_ofNat_Int, hn, go_sem, simprocAttr] <;> try (simp (disch := omega) only [wrW]; try simp -implicitDefEqProofs only [WS.cellsR, hy, hz, hidx, hidk, av_mk', hd1, Int.cast_ofNat_Int, hn, go_sem, simprocAttr]))
         | with_reducible refine And.intro (by first | omega | (simp only [hgW]; omega)) ?_
         | (exfalso; omega)
        refine ⟨(k + 1, ⟨b3, i3⟩, 21), ?_, tail _ _ _ (fun h => by cases h) (fun _ => y1.symm), by simp only; omega⟩
        rw [e2]
        simp -implicitDefEqProofs only [WS.cellsR, Int.cast_ofNat_Int, hn, go_sem, simprocAttr]
        try rfl
      rw [if_neg (fun hh => hB ⟨hh.2.1, hh.2.2.1, by simpa using hh.2.2.2⟩)] at y1
      have T := tail b4 i4 er (fun h => by rw [if_neg (by simpa using h)] at y1; exact ⟨y1, K2 h⟩) (fun h => by rw [if_pos h] at y1; exact y1.symm)
      by_cases hk2 : k % 2 = 0
      · have hpt : pl = true := by
          cases pl with
          | true => rfl
          | false => exact absurd ⟨hk2, rfl⟩ hA
        subst hpt
        by_cases hk0 : k = 0
        · skip
          repeat' first
           | with_reducible refine Rl.go (by constructor <;> decide) ?_
           | ((with_reducible first | refine hK _ ?_ | refine hK.1 ?_ | refine hK.2 ?_); clear hK K)
           | ((with_reducible refine condS hK (fun hg => ?_) fun hg => ?_) <;> clear hK K <;> (try simp only [hgW] at hg) <;> try (exfalso; omega))
           | ((with_reducible refine callE_B3 c35 ?_); simp -implicitDefEqProofs only [eqOk_true, WS.cellsR, hy, hz, hidx, hidk, av_mk', hd1, Int.cast_ofNat_Int, hn, go_sem, simprocAttr]; (skip; try (simp (disch := omega) only [wrW]; try simp -implicitDefEqProofs only [WS.cellsR, hy, hz, hidx, hidk, av_mk', hd1, Int.cast_ofNat_Int, hn, go_sem, simprocAttr])); fail_if_success (with_reducible refine eqOk_mk ?_))
           | ((first | ((with_reducible first | refine Rk.go k35_VsCRWG (by constructor) ?_ | refine Rd.go 24 k35_VsCRWG a35_24_VsCRWG o35_24_VsCRWG mixed (by constructor) (by kernel_rfl) (by kernel_rfl) ?_ | refine Rd.go 29 k35_VsCRWG a35_29_VsCRWG o35_29_VsCRWG mixed (by constructor) (by kernel_rfl) (by kernel_rfl) ?_ | refine Rd.go 14 k35_VsCRWG a35_14_VsCRWG o35_14_VsCRWG mixed (by constructor) (by kernel_rfl) (by kernel_rfl) ?_); intro K hK) | with_reducible refine Rr.go [] (by constructor) ?_ | (with_reducible refine guardP_split (fun hg => ?_) fun hg => ?_) <;> (try simp only [hg]) <;> (try simp only [hgW] at hg) | refine Rc.go c46 (by constructor) ?_) <;> simp -implicitDefEqProofs only [WS.cellsR, hy, hz, hidx, hidk, av_mk', hd1, Int.cast_ofNat_Int, hn, go_sem, simprocAttr] <;> try (simp (disch := omega) only [wrW]; try simp -implicitDefEqProofs only [WS.cellsR, hy, hz, hidx, hidk, av_mk', hd1, Int.cast_ofNat_Int, hn, go_sem, simprocAttr]))
           | with_reducible refine And.intro (by first | omega | (simp only [hgW]; omega)) ?_
           | (exfalso; omega)
          all_goals refine ⟨(k + 1, ⟨b4, i4⟩, er), ?_, T, by simp only; omega⟩
          all_goals rw [e2]
          all_goals simp -implicitDefEqProofs only [WS.cellsR, Int.cast_ofNat_Int, hn, go_sem, simprocAttr]
          all_goals try rfl
        · have hot : o = true := by
            cases o with
            | true => rfl
            | false => exact absurd ⟨hk2, by omega, rfl⟩ hB
          subst hot
          repeat' first
           | with_reducible refine Rl.go (by constructor <;> decide) ?_
           | ((with_reducible first | refine hK _ ?_ | refine hK.1 ?_ | refine hK.2 ?_); clear hK K)
           | ((with_reducible refine condS hK (fun hg => ?_) fun hg => ?_) <;> clear hK K <;> (try simp only [hgW] at hg) <;> try (exfalso; omega))
           | ((with_reducible refine callE_B3 c35 ?_); simp -implicitDefEqProofs only [eqOk_true, WS.cellsR, hy, hz, hidx, hidk, av_mk', hd1, Int.cast_ofNat_Int, hn, go_sem, simprocAttr]; (skip; try (simp (disch := omega) only [wrW]; try simp -implicitDefEqProofs only [WS.cellsR, hy, hz, hidx, hidk, av_mk', hd1, Int.cast_ofNat_Int, hn, go_sem, simprocAttr])); fail_if_success (with_reducible refine eqOk_mk ?_))
           | ((first | ((with_reducible first | refine Rk.go k35_VsCRWG (by constructor) ?_ | refine Rd.go 24 k35_VsCRWG a35_24_VsCRWG o35_24_VsCRWG mixed (by constructor) (by kernel_rfl) (by kernel_rfl) ?_ | refine Rd.go 29 k35_VsCRWG a35_29_VsCRWG o35_29_VsCRWG mixed (by constructor) (by kernel_rfl) (by kernel_rfl) ?_ | refine Rd.go 14 k35_VsCRWG a35_14_VsCRWG o35_14_VsCRWG mixed (by constructor) (by kernel_rfl) (by kernel_rfl) ?_); intro K hK) | with_reducible refine Rr.go [] (by constructor) ?_ | (with_reducible refine guardP_split (fun hg => ?_) fun hg => ?_) <;> (try simp only [hg]) <;> (try simp only [hgW] at hg) | refine Rc.go c46 (by constructor) ?_ | refine Rc.go c36 (by constructor) ?_) <;> simp -implicitDefEqProofs only [WS.cellsR, hy, hz, hidx, hidk, av_mk', hd1, Int.cast_ofNat_Int, hn, go_sem, simprocAttr] <;> try (simp (disch := omega) only [wrW]; try simp -implicitDefEqProofs only [WS.cellsR, hy, hz, hidx, hidk, av_mk', hd1, Int.cast_ofNat_Int, hn, go_sem, simprocAttr]))
           | with_reducible refine And.intro (by first | omega | (simp only [hgW]; omega)) ?_
           | (exfalso; omega)
          all_goals refine ⟨(k + 1, ⟨b4, i4⟩, er), ?_, T, by simp only; omega⟩
          all_goals rw [e2]
          all_goals simp -implicitDefEqProofs only [WS.cellsR, Int.cast_ofNat_Int, hn, go_sem, simprocAttr]
          all_goals try rfl
      · skip
        repeat' first
         | with_reducible refine Rl.go (by constructor <;> decide) ?_
         | ((with_reducible first | refine hK _ ?_ | refine hK.1 ?_ | refine hK.2 ?_); clear hK K)
         | ((with_reducible refine condS hK (fun hg => ?_) fun hg => ?_) <;> clear hK K <;> (try simp only [hgW] at hg) <;> try (exfalso; omega))
         | ((with_reducible refine callE_B3 c35 ?_); simp -implicitDefEqProofs only [eqOk_true, WS.cellsR, hy, hidk, av_mk', hd1, Int.cast_ofNat_Int, hn, go_sem, simprocAttr]; (skip; try (simp (disch := omega) only [wrW]; try simp -implicitDefEqProofs only [WS.cellsR, hy, hidk, av_mk', hd1, Int.cast_ofNat_Int, hn, go_sem, simprocAttr])); fail_if_success (with_reducible refine eqOk_mk ?_))
         | ((first | ((with_reducible first | refine Rk.go k35_VsCRWG (by constructor) ?_ | refine Rd.go 24 k35_VsCRWG a35_24_VsCRWG o35_24_VsCRWG mixed (by constructor) (by kernel_rfl) (by kernel_rfl) ?_ | refine Rd.go 29 k35_VsCRWG a35_29_VsCRWG o35_29_VsCRWG mixed (by constructor) (by kernel_rfl) (by kernel_rfl) ?_ | refine Rd.go 14 k35_VsCRWG a35_14_VsCRWG o35_14_VsCRWG mixed (by constructor) (by kernel_rfl) (by kernel_rfl) ?_); intro K hK) | with_reducible refine Rr.go [] (by constructor) ?_ | (with_reducible refine guardP_split (fun hg => ?_) fun hg => ?_) <;> (try simp only [hg]) <;> (try simp only [hgW] at hg)) <;> simp -implicitDefEqProofs only [WS.cellsR, hy, hidk, av_mk', hd1, Int.cast_ofNat_Int, hn, go_sem, simprocAttr] <;> try (simp (disch := omega) only [wrW]; try simp -implicitDefEqProofs only [WS.cellsR, hy, hidk, av_mk', hd1, Int.cast_ofNat_Int, hn, go_sem, simprocAttr]))
         | with_reducible refine And.intro (by first | omega | (simp only [hgW]; omega)) ?_
         | (exfalso; omega)
        all_goals refine ⟨(k + 1, ⟨b4, i4⟩, er), ?_, T, by simp only; omega⟩
        all_goals rw [e2]
        all_goals simp -implicitDefEqProofs only [WS.cellsR, Int.cast_ofNat_Int, hn, go_sem, simprocAttr]
        all_goals try rfl
    · have hx := x3 hco
      cases hx
      repeat' first
       | with_reducible refine Rl.go (by constructor <;> decide) ?_
       | ((with_reducible first | refine hK _ ?_ | refine hK.1 ?_ | refine hK.2 ?_); clear hK K)
       | ((with_reducible refine condS hK (fun hg => ?_) fun hg => ?_) <;> clear hK K <;> (try simp only [hgW] at hg) <;> try (exfalso; omega))
       | ((first | ((with_reducible first | refine Rk.go k35_VsCRWG (by constructor) ?_ | refine Rd.go 24 k35_VsCRWG a35_24_VsCRWG o35_24_VsCRWG mixed (by constructor) (by kernel_rfl) (by kernel_rfl) ?_ | refine Rd.go 29 k35_VsCRWG a35_29_VsCRWG o35_29_VsCRWG mixed (by constructor) (by kernel_rfl) (by kernel_rfl) ?_ | refine Rd.go 14 k35_VsCRWG a35_14_VsCRWG o35_14_VsCRWG mixed (by constructor) (by kernel_rfl) (by kernel_rfl) ?_); intro K hK) | with_reducible refine Rr.go [] (by constructor) ?_ | (with_reducible refine guardP_split (fun hg => ?_) fun hg => ?_) <;> (try simp only [hg]) <;> (try simp only [hgW] at hg)) <;> simp -implicitDefEqProofs only [WS.cellsR, Int.cast_ofNat_Int, hn, go_sem, simprocAttr] <;> try (simp (disch := omega) only [wrW]; try simp -implicitDefEqProofs only [WS.cellsR, Int.cast_ofNat_Int, hn, go_sem, simprocAttr]))
       | with_reducible refine And.intro (by first | omega | (simp only [hgW]; omega)) ?_
       | (exfalso; omega)
end Go.Proofs.YtijcpdgfbboamaaDoor
open Go Go.VS
namespace Go.Proofs.YtijcpdgfbboamaaDoor
set_option linter.unusedVariables false
set_option linter.unusedSimpArgs false
set_option maxRecDepth 20000
set_option maxHeartbeats 4000000
theorem f35_ok {valid : List UInt8 → Bool} (hv : ValidI valid) : ∀ (d D : Nat), D + d = 8 → ItRW (itemW valid badA d) d D := by
  intro d D hD x s hf hs
  have hL := hf.here
  have put : ∀ (l : List UInt8), s.items + 1 ≤ 512 → l.length ≤ 100010 → (WS.put { s with items := s.items + 1 } l).Ok := by
    intro l h1 hl
    have := hs.2
    refine ⟨by show s.items + 1 ≤ 512; omega, ?_⟩
    show (s.b ++ l).length ≤ 100010 * (s.items + 1)
    rw [List.length_append]
    omega
  obtain ⟨R, hR⟩ : ∃ R, itemW valid badA d x s = R := ⟨_, rfl⟩
  rw [hR]
  unfold itemW at hR
  simp only at hR
  by_cases c1 : 512 < s.items + 1
  · rw [if_pos c1] at hR
    subst hR
    exact f35_err D x s hs 14 hv hL (.inl ⟨c1, rfl⟩)
  rw [if_neg c1] at hR
  have c1' : s.items + 1 ≤ 512 := by omega
  by_cases c2 : x.k = 1 ∨ x.k = 2
  · rw [if_pos c2] at hR
    subst hR
    exact f35_num D x s hL hs c1' c2
  rw [if_neg c2] at hR
  by_cases c3 : x.k = 3 ∨ x.k = 4
  · rw [if_pos c3] at hR
    by_cases c4 : x.k = 4 ∧ valid x.b = false
    · rw [if_pos c4] at hR
      subst hR
      exact f35_err D x s hs 23 hv hL (.inr ⟨c1', .inr (.inl ⟨c4.1, c4.2, rfl⟩)⟩)
    · rw [if_neg c4] at hR
      subst hR
      exact f35_txt hv D x s hL hs c1' c3 c4
  rw [if_neg c3] at hR
  by_cases c5 : x.k = 7 ∨ x.k = 8 ∨ x.k = 9
  · rw [if_pos c5] at hR
    subst hR
    exact f35_one D x s hL hs c1' c5
  rw [if_neg c5] at hR
  by_cases c6 : x.k = 5 ∨ x.k = 6
  · rw [if_pos c6] at hR
    cases d with
    | zero =>
      subst hR
      exact f35_err D x s hs 13 hv hL (.inr ⟨c1', .inr (.inr (.inl ⟨c6, by omega, rfl⟩))⟩)
    | succ d =>
      simp only at hR
      by_cases c7 : x.k = 6 ∧ x.ks.length % 2 = 1
      · rw [if_pos c7] at hR
        subst hR
        exact f35_err D x s hs 20 hv hL (.inr ⟨c1', .inr (.inr (.inr ⟨c7.1, by omega, c7.2, rfl⟩))⟩)
      rw [if_neg c7] at hR
      subst hR
      have hl := hdW_le (x.k - 1) (if x.k = 6 then x.ks.length / 2 else x.ks.length)
      exact f35_grp d D (by omega) (f35_ok hv d (D + 1) (by omega)) (itemW_ok valid badA d) x hf s hs c1'
        (if x.k = 6 then x.ks.length / 2 else x.ks.length) (by split <;> omega) (put _ c1' (by omega)) (decide (x.k = 6)) rfl
  rw [if_neg c6] at hR
  subst hR
  exact f35_err D x s hs 20 hv hL (.inr ⟨c1', .inl ⟨by have := hL.1; omega, rfl⟩⟩)
/-! ### The two orders agree -/
theorem bad_same {z y : CI} (h : plainS z = true) : badA z y = badO z y := by
  unfold badA badO
  have := @order_ahead z y h
  cases e : aheadS z y with
  | true =>
    symm
    exact decide_eq_false (fun h2 => by rw [this.1 h2] at e; cases e)
  | false =>
    symm
    exact decide_eq_true (this.2 e)
theorem kids_bad {it it' : CI → WS → Nat × WS} (hi : ∀ x w, it x w = it' x w) (pair : Bool) (ks : List CI) : ∀ (n k : Nat) (w : WS), (pair = true → ∀ j, j < k → j % 2 = 0 → plainS (ks.getD j default) = true) →
    kidsW it badA pair ks n k w = kidsW it' badO pair ks n k w
  | 0, k, w, _ => rfl
  | n + 1, k, w, h => by
    simp only [kidsW]
    by_cases c1 : pair = true ∧ k % 2 = 0 ∧ plainS (ks.getD k default) = false
    · rw [if_pos c1, if_pos c1]
    rw [if_neg c1, if_neg c1]
    have hb : (pair = true ∧ k % 2 = 0 ∧ 0 < k ∧ badA (ks.getD (k - 2) default) (ks.getD k default) = true) ↔ (pair = true ∧ k % 2 = 0 ∧ 0 < k ∧ badO (ks.getD (k - 2) default) (ks.getD k default) = true) := by
      constructor
      · rintro ⟨a, b, c, e⟩
        exact ⟨a, b, c, by rw [← bad_same (h a (k - 2) (by omega) (by omega))]; exact e⟩
      · rintro ⟨a, b, c, e⟩
        exact ⟨a, b, c, by rw [bad_same (h a (k - 2) (by omega) (by omega))]; exact e⟩
    by_cases c2 : pair = true ∧ k % 2 = 0 ∧ 0 < k ∧ badO (ks.getD (k - 2) default) (ks.getD k default) = true
    · rw [if_pos (hb.2 c2), if_pos c2]
    rw [if_neg (fun x => c2 (hb.1 x)), if_neg c2, hi]
    split
    · rfl
    · refine kids_bad hi pair ks n (k + 1) _ (fun a j hj hj2 => ?_)
      by_cases hjk : j = k
      · subst hjk
        cases e : plainS (ks.getD j default) with
        | true => rfl
        | false => exact absurd ⟨a, hj2, e⟩ c1
      · exact h a j (by omega) hj2
theorem item_bad (valid : List UInt8 → Bool) : ∀ (d : Nat) (x : CI) (w : WS), itemW valid badA d x w = itemW valid badO d x w
  | 0, x, w => rfl
  | d + 1, x, w => by
    have kk : ∀ (p : Bool) (ks : List CI) (n : Nat) (w : WS), kidsW (itemW valid badA d) badA p ks n 0 w = kidsW (itemW valid badO d) badO p ks n 0 w := fun p ks n w => kids_bad (item_bad valid d) p ks n 0 w (fun _ j hj => absurd hj (Nat.not_lt_zero _))
    unfold itemW
    simp only [kk]
def k19_VsCRWE : List Nat := [0,1,2,3,4,22,30]
def a19_6_VsCRWE : List Nat := [0,1,3,7,0,31]
def o19_6_VsCRWE : List Nat := [0,1,2,3,4,5]
attribute [go_sem] k19_VsCRWE a19_6_VsCRWE o19_6_VsCRWE
theorem f19_own {valid : List UInt8 → Bool} (hv : ValidI valid) (x : CI) (hf : Fit 8 x) : CallsP Tryd.prog 19 [x.av] (.tup [bytesOwn (encS valid x).1, .int .i64 ((encS valid x).2 : Int)]) := by
  have c35 := f35_ok hv 8 0 rfl x ⟨[], 0⟩ hf ⟨by decide, by decide⟩
  have K := (itemW_keeps valid badO 8).grow x ⟨[], 0⟩
  rw [item_bad] at c35
  unfold encS
  simp only
  generalize itemW valid badO 8 x ⟨[], 0⟩ = p at *
  obtain ⟨er, b, items⟩ := p
  obtain ⟨ki, ni, bni, bi, kni, kids⟩ := x
  rw [av_mk'] at *
  simp only at c35 K ⊢
  have c35' : CallsB Tryd.prog 35 [.ptr 1000000 0, .agg [.int .u8 (ki : Int), .int .u64 (ni : Int), .sl none bni 1 (bi.map u8), .sl none kni 4 (kids.map CI.av)], .int .i64 0] [[.sl (some ((4, 0), 0)) true 1 [], .int .i64 0, .int .i64 0]] (.tup []) [WS.cellsR ⟨b, items⟩ er (3, 0)] := c35
  refine CallsP.intro Tryd.func19 rfl (by show 1 ≤ 39; decide) ?_
  rintro X hX
  have hn : X.n = 39 := hX
  unfold Tryd.f19
  dsimp only
  rw [entry1]
  repeat' first
   | (with_reducible refine markQ 2 ?_)
   | with_reducible refine Rl.go (by constructor <;> decide) ?_
   | ((with_reducible first | refine hK _ ?_ | refine hK.1 ?_ | refine hK.2 ?_); clear hK K)
   | ((with_reducible refine condS hK (fun hg => ?_) fun hg => ?_) <;> clear hK K <;> (try simp only [hgW] at hg) <;> try (exfalso; omega))
   | ((first | ((with_reducible first | refine Rk.go k19_VsCRWE (by constructor) ?_ | refine Rd.go 6 k19_VsCRWE a19_6_VsCRWE o19_6_VsCRWE mixed (by constructor) (by kernel_rfl) (by kernel_rfl) ?_); intro K hK) | with_reducible refine Rr.go [] (by constructor) ?_ | (with_reducible refine guardP_split (fun hg => ?_) fun hg => ?_) <;> (try simp only [hg]) <;> (try simp only [hgW] at hg)) <;> simp -implicitDefEqProofs only [Int.cast_ofNat_Int, hn, go_sem, simprocAttr] <;> try simp (disch := omega) only [wrW])
   | with_reducible refine And.intro (by first | omega | (simp only [hgW]; omega)) ?_
   | (exfalso; omega)
  unfold MarkQ
  refine AWP.adoptB 6 0 (0, 999) 0 1 (by rfl) (by rfl) ?_
  by_cases he : er = 0
  · subst he
    rw [if_neg (by simp)]
    have hbe : b.isEmpty = false := by
      have := K rfl
      cases b with
      | nil => simp at this
      | cons => rfl
    by_cases hl : 8192 < b.length
    · rw [if_pos hl]
      repeat' first
       | with_reducible refine Rl.go (by constructor <;> decide) ?_
       | ((with_reducible first | refine hK _ ?_ | refine hK.1 ?_ | refine hK.2 ?_); clear hK K)
       | ((with_reducible refine condS hK (fun hg => ?_) fun hg => ?_) <;> clear hK K <;> (try simp only [hgW] at hg) <;> try (exfalso; omega))
       | ((with_reducible refine callE_B3 (c35') ?_); simp -implicitDefEqProofs only [eqOk_true, WS.cellsR, bytesOwn, cond_true, cond_false, Int.cast_ofNat_Int, hn, go_sem, simprocAttr]; (skip; try simp (disch := omega) only [wrW]); fail_if_success (with_reducible refine eqOk_mk ?_))
       | ((first | ((with_reducible first | refine Rk.go k19_VsCRWE (by constructor) ?_ | refine Rd.go 6 k19_VsCRWE a19_6_VsCRWE o19_6_VsCRWE mixed (by constructor) (by kernel_rfl) (by kernel_rfl) ?_); intro K hK) | with_reducible refine Rr.go [] (by constructor) ?_ | (with_reducible refine guardP_split (fun hg => ?_) fun hg => ?_) <;> (try simp only [hg]) <;> (try simp only [hgW] at hg)) <;> simp -implicitDefEqProofs only [WS.cellsR, bytesOwn, cond_true, cond_false, Int.cast_ofNat_Int, hn, go_sem, simprocAttr] <;> try simp (disch := omega) only [wrW])
       | with_reducible refine And.intro (by first | omega | (simp only [hgW]; omega)) ?_
       | (exfalso; omega)
    · rw [if_neg hl]
      repeat' first
       | with_reducible refine Rl.go (by constructor <;> decide) ?_
       | ((with_reducible first | refine hK _ ?_ | refine hK.1 ?_ | refine hK.2 ?_); clear hK K)
       | ((with_reducible refine condS hK (fun hg => ?_) fun hg => ?_) <;> clear hK K <;> (try simp only [hgW] at hg) <;> try (exfalso; omega))
       | ((with_reducible refine callE_B3 (c35') ?_); simp -implicitDefEqProofs only [eqOk_true, WS.cellsR, bytesOwn, cond_true, cond_false, hbe, Int.cast_ofNat_Int, hn, go_sem, simprocAttr]; (skip; try simp (disch := omega) only [wrW]); fail_if_success (with_reducible refine eqOk_mk ?_))
       | ((first | ((with_reducible first | refine Rk.go k19_VsCRWE (by constructor) ?_ | refine Rd.go 6 k19_VsCRWE a19_6_VsCRWE o19_6_VsCRWE mixed (by constructor) (by kernel_rfl) (by kernel_rfl) ?_); intro K hK) | with_reducible refine Rr.go [] (by constructor) ?_ | (with_reducible refine guardP_split (fun hg => ?_) fun hg => ?_) <;> (try simp only [hg]) <;> (try simp only [hgW] at hg)) <;> simp -implicitDefEqProofs only [WS.cellsR, bytesOwn, cond_true, cond_false, hbe, Int.cast_ofNat_Int, hn, go_sem, simprocAttr] <;> try simp (disch := omega) only [wrW])
       | with_reducible refine And.intro (by first | omega | (simp only [hgW]; omega)) ?_
       | (exfalso; omega)
  · rw [if_pos he]
    repeat' first
     | with_reducible refine Rl.go (by constructor <;> decide) ?_
     | ((with_reducible first | refine hK _ ?_ | refine hK.1 ?_ | refine hK.2 ?_); clear hK K)
     | ((with_reducible refine condS hK (fun hg => ?_) fun hg => ?_) <;> clear hK K <;> (try simp only [hgW] at hg) <;> try (exfalso; omega))
     | ((with_reducible refine callE_B3 (c35') ?_); simp -implicitDefEqProofs only [eqOk_true, WS.cellsR, bytesOwn, cond_true, cond_false, Int.cast_ofNat_Int, hn, go_sem, simprocAttr]; (skip; try simp (disch := omega) only [wrW]); fail_if_success (with_reducible refine eqOk_mk ?_))
     | ((first | ((with_reducible first | refine Rk.go k19_VsCRWE (by constructor) ?_ | refine Rd.go 6 k19_VsCRWE a19_6_VsCRWE o19_6_VsCRWE mixed (by constructor) (by kernel_rfl) (by kernel_rfl) ?_); intro K hK) | with_reducible refine Rr.go [] (by constructor) ?_ | (with_reducible refine guardP_split (fun hg => ?_) fun hg => ?_) <;> (try simp only [hg]) <;> (try simp only [hgW] at hg)) <;> simp -implicitDefEqProofs only [WS.cellsR, bytesOwn, cond_true, cond_false, Int.cast_ofNat_Int, hn, go_sem, simprocAttr] <;> try simp (disch := omega) only [wrW])
     | with_reducible refine And.intro (by first | omega | (simp only [hgW]; omega)) ?_
     | (exfalso; omega)
theorem f19_ok {valid : List UInt8 → Bool} (hv : ValidI valid) (x : CI) (hf : Fit 8 x) : CallsP Tryd.prog 19 [x.av] (.tup [bytesAV (encS valid x).1, .int .i64 ((encS valid x).2 : Int)]) := own_bytes (f19_own hv x hf)
end Go.Proofs.YtijcpdgfbboamaaDoor
