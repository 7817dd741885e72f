/- What the writer's group comes to; items that are written, by depth; Encode. -/
import Derived.Test.YtijcpdgfbboamaaDoorVsCEncI
import Derived.Test.YtijcpdgfbboamaaDoorVsCArr
open Go Go.VS
namespace Go.Proofs.YtijcpdgfbboamaaDoor
set_option linter.unusedVariables false
set_option linter.unusedSimpArgs false
set_option maxRecDepth 20000
set_option maxHeartbeats 4000000
def k48_VsCEncG : List Nat := [0,1,2,4,6,7,8,9,10,12,18,21,32,33,34,35,46,49,62,69]
def a48_15_VsCEncG : List Nat := [0,1,3,7,15,7,39,127,255,7,1023,2047,4095]
def o48_15_VsCEncG : List Nat := [0,1,2,3,4,5,6,7,8,9,10,11,12]
attribute [go_sem] k48_VsCEncG a48_15_VsCEncG o48_15_VsCEncG
theorem f48_deep (x : CI) (s : WS) : CallsB Tryd.prog 48 [.ptr 1000000 0, x.av, .int .i64 0] [s.cells (4, 0)] (.int .i64 13) [s.cells (3, 0)] := by
  obtain ⟨b, items⟩ := s
  obtain ⟨ki, ni, bni, bi, kni, kids⟩ := x
  rw [av_mk']
  refine CallsB.introF Tryd.func48 rfl (by show 3 ≤ 72; decide) ?_
  rintro X hX
  have hn : X.n = 72 := hX
  unfold Tryd.f48
  dsimp only
  rw [entryB31]
  repeat' first
   | with_reducible refine Rl.go (by constructor <;> decide) ?_
   | ((with_reducible first | refine hK _ ?_ | refine hK.1 ?_ | refine hK.2 ?_); clear hK K)
   | ((with_reducible refine condS hK (fun hg => ?_) fun hg => ?_) <;> clear hK K <;> (try simp only [hgW] at hg) <;> try (exfalso; omega))
   | ((first | ((with_reducible first | refine Rk.go k48_VsCEncG (by constructor) ?_ | refine Rd.go 15 k48_VsCEncG a48_15_VsCEncG o48_15_VsCEncG mixed (by constructor) (by kernel_rfl) (by kernel_rfl) ?_); intro K hK) | with_reducible refine Rr.go [] (by constructor) ?_ | (with_reducible refine guardP_split (fun hg => ?_) fun hg => ?_) <;> (try simp only [hg]) <;> (try simp only [hgW] at hg)) <;> simp -implicitDefEqProofs only [WS.cells, Int.cast_ofNat_Int, hn, go_sem, simprocAttr] <;> try (simp (disch := omega) only [wrW]; try simp -implicitDefEqProofs only [WS.cells, Int.cast_ofNat_Int, hn, go_sem, simprocAttr]))
   | with_reducible refine And.intro (by first | omega | (simp only [hgW]; omega)) ?_
   | (exfalso; omega)
theorem f48_odd (d : Nat) (x : CI) (s : WS) (hk : x.k = 6) (ho : x.ks.length % 2 = 1) : CallsB Tryd.prog 48 [.ptr 1000000 0, x.av, .int .i64 ((d + 1 : Nat) : Int)] [s.cells (4, 0)] (.int .i64 20) [s.cells (3, 0)] := by
  obtain ⟨b, items⟩ := s
  obtain ⟨ki, ni, bni, bi, kni, kids⟩ := x
  simp only [CI.k, CI.ks] at *
  have ho' : (kids.length : Int) % 2 = 1 := by omega
  subst hk
  rw [av_mk']
  refine CallsB.introF Tryd.func48 rfl (by show 3 ≤ 72; decide) ?_
  rintro X hX
  have hn : X.n = 72 := hX
  unfold Tryd.f48
  dsimp only
  rw [entryB31]
  repeat' first
   | with_reducible refine Rl.go (by constructor <;> decide) ?_
   | ((with_reducible first | refine hK _ ?_ | refine hK.1 ?_ | refine hK.2 ?_); clear hK K)
   | ((with_reducible refine condS hK (fun hg => ?_) fun hg => ?_) <;> clear hK K <;> (try simp only [hgW] at hg) <;> try (exfalso; omega))
   | ((first | ((with_reducible first | refine Rk.go k48_VsCEncG (by constructor) ?_ | refine Rd.go 15 k48_VsCEncG a48_15_VsCEncG o48_15_VsCEncG mixed (by constructor) (by kernel_rfl) (by kernel_rfl) ?_); intro K hK) | with_reducible refine Rr.go [] (by constructor) ?_ | (with_reducible refine guardP_split (fun hg => ?_) fun hg => ?_) <;> (try simp only [hg]) <;> (try simp only [hgW] at hg)) <;> simp -implicitDefEqProofs only [WS.cells, ho', Int.cast_ofNat_Int, hn, go_sem, simprocAttr] <;> try (simp (disch := omega) only [wrW]; try simp -implicitDefEqProofs only [WS.cells, ho', Int.cast_ofNat_Int, hn, go_sem, simprocAttr]))
   | with_reducible refine And.intro (by first | omega | (simp only [hgW]; omega)) ?_
   | (exfalso; omega)
theorem f48_go {it : CI → WS → Nat × WS} (d : Nat) (hd8 : d ≤ 8) (hit : ItWOk it d) (K : ∀ x s, Fit d x → s.Ok → (it x s).1 = 0 → (it x s).2.Ok) (x : CI) (hf : Fit (d + 1) x) (s : WS) (hb : s.b.length ≤ 100000000) (N : Nat)
    (hN : (x.k = 5 ∧ N = x.ks.length) ∨ (x.k = 6 ∧ x.ks.length = 2 * N)) (hp : (s.put (hdW (x.k - 1) N)).Ok) (P : Bool) (hP : P = decide (x.k = 6)) :
    CallsB Tryd.prog 48 [.ptr 1000000 0, x.av, .int .i64 ((d + 1 : Nat) : Int)] [s.cells (4, 0)] (.int .i64 ((kidsW it badO P x.ks x.ks.length 0 (s.put (hdW (x.k - 1) N))).1 : Int)) [(kidsW it badO P x.ks x.ks.length 0 (s.put (hdW (x.k - 1) N))).2.cells (3, 0)] := by
  obtain ⟨R, hR⟩ : ∃ R, kidsW it badO P x.ks x.ks.length 0 (s.put (hdW (x.k - 1) N)) = R := ⟨_, rfl⟩
  rw [hR]
  obtain ⟨f1, f2, f3, f4, f5⟩ := hf.here
  have hf' := hf.2
  have c47 := f47_ok (x.k - 1) N (by omega) (by omega) s hb
  obtain ⟨ki, ni, bni, bi, kni, kids⟩ := x
  simp only [CI.k, CI.ks] at *
  have hk1 : ((ki - 1 : Nat) : Int) = (ki : Int) - 1 := by omega
  have hd1 : ((d + 1 : Nat) : Int) - 1 = (d : Int) := by omega
  have hw : IntKind.i64.wrap (d : Int) = (d : Int) := Go.IntWalk.i64_in _ (by omega)
  have hr : ki = 6 → (kids.length : Int) % 2 = 0 := by omega
  have hq2 : ki = 6 → (kids.length : Int) / 2 = (N : Int) := by omega
  generalize hq : WS.put s (hdW (ki - 1) N) = q at *
  obtain ⟨b, items⟩ := s
  obtain ⟨b', items'⟩ := q
  rw [av_mk']
  have hNk : N = kids.length ∨ ki = 6 := by omega
  have h56 : ki = 5 ∨ ki = 6 := by omega
  rcases h56 with rfl | rfl
  · obtain rfl : N = kids.length := by omega
    have hPf : P = false := by rw [hP]; rfl
    subst hPf
    refine CallsB.introF Tryd.func48 rfl (by show 3 ≤ 72; decide) ?_
    rintro X hX
    have hn : X.n = 72 := hX
    unfold Tryd.f48
    dsimp only
    rw [entryB31]
    repeat' first
     | with_reducible refine Rl.go (by constructor <;> decide) ?_
     | ((with_reducible first | refine hK _ ?_ | refine hK.1 ?_ | refine hK.2 ?_); clear hK K)
     | ((with_reducible refine condS hK (fun hg => ?_) fun hg => ?_) <;> clear hK K <;> (try simp only [hgW] at hg) <;> try (exfalso; omega))
     | ((with_reducible refine callE_B3 c47 ?_); simp -implicitDefEqProofs only [eqOk_true, WS.cells, hk1, Int.cast_ofNat_Int, hn, go_sem, simprocAttr]; (skip; try (simp (disch := omega) only [wrW]; try simp -implicitDefEqProofs only [WS.cells, hk1, Int.cast_ofNat_Int, hn, go_sem, simprocAttr])); fail_if_success (with_reducible refine eqOk_mk ?_))
     | ((first | ((with_reducible first | refine Rk.go k48_VsCEncG (by constructor) ?_ | refine Rd.go 15 k48_VsCEncG a48_15_VsCEncG o48_15_VsCEncG mixed (by constructor) (by kernel_rfl) (by kernel_rfl) ?_); intro K hK) | with_reducible refine Rr.go [] (by constructor) ?_ | (with_reducible refine guardP_split (fun hg => ?_) fun hg => ?_) <;> (try simp only [hg]) <;> (try simp only [hgW] at hg)) <;> simp -implicitDefEqProofs only [WS.cells, hk1, Int.cast_ofNat_Int, hn, go_sem, simprocAttr] <;> try (simp (disch := omega) only [wrW]; try simp -implicitDefEqProofs only [WS.cells, hk1, Int.cast_ofNat_Int, hn, go_sem, simprocAttr]))
     | with_reducible refine And.intro (by first | omega | (simp only [hgW]; omega)) ?_
     | (exfalso; omega)
    refine AWP.loopX [0, 2, 4, 6, 32, 33, 34] [9] (fun x : Nat × WS => St.mk (lk [(0, .ptr 1000000 0), (2, .int .i64 ((d + 1 : Nat) : Int)), (4, .ptr 4 0), (6, .int .i64 0), (32, .sl none kni 4 (kids.map CI.av)), (33, .int .i64 (kids.length : Int)), (34, .int .i64 (x.1 : Int))])
        (lkB [(1000000, x.2.cells (4, 0)), (4, [.int .u8 5, .int .u64 (ni : Int), .sl none bni 1 (bi.map u8), .sl none kni 4 (kids.map CI.av)])]) (hasS []) (hasS []) (hasN []) (lkR []))
      (fun x => x.1 ≤ kids.length ∧ kidsW it badO false kids (kids.length - x.1) x.1 x.2 = R ∧ x.2.Ok) (fun x => kids.length - x.1) (0, ⟨b', items'⟩) ?_ ⟨Nat.zero_le _, hR, hp⟩ ?_
    · simp -implicitDefEqProofs only [WS.cells, Int.cast_ofNat_Int, hn, go_sem, simprocAttr]
      try rfl
    rintro ⟨k, s⟩ ⟨x1, x2, x3⟩
    simp only at x1 x2 x3
    by_cases hkn : k = kids.length
    · subst hkn
      rw [Nat.sub_self] at x2
      simp only [kidsW] at x2
      subst x2
      obtain ⟨b3, i3⟩ := s
      repeat' first
       | with_reducible refine Rl.go (by constructor <;> decide) ?_
       | ((with_reducible first | refine hK _ ?_ | refine hK.1 ?_ | refine hK.2 ?_); clear hK K)
       | ((with_reducible refine condS hK (fun hg => ?_) fun hg => ?_) <;> clear hK K <;> (try simp only [hgW] at hg) <;> try (exfalso; omega))
       | ((first | ((with_reducible first | refine Rk.go k48_VsCEncG (by constructor) ?_ | refine Rd.go 15 k48_VsCEncG a48_15_VsCEncG o48_15_VsCEncG mixed (by constructor) (by kernel_rfl) (by kernel_rfl) ?_); intro K hK) | with_reducible refine Rr.go [] (by constructor) ?_ | (with_reducible refine guardP_split (fun hg => ?_) fun hg => ?_) <;> (try simp only [hg]) <;> (try simp only [hgW] at hg)) <;> simp -implicitDefEqProofs only [WS.cells, Int.cast_ofNat_Int, hn, go_sem, simprocAttr] <;> try (simp (disch := omega) only [wrW]; try simp -implicitDefEqProofs only [WS.cells, Int.cast_ofNat_Int, hn, go_sem, simprocAttr]))
       | with_reducible refine And.intro (by first | omega | (simp only [hgW]; omega)) ?_
       | (exfalso; omega)
    obtain ⟨y, hy⟩ : ∃ y, kids.getD k default = y := ⟨_, rfl⟩
    have hym : y ∈ kids := by
      rw [← hy, List.getD_eq_getElem?_getD, List.getElem?_eq_getElem (by omega)]
      exact List.getElem_mem _
    have hx0 : kids.length - k = (kids.length - (k + 1)) + 1 := by omega
    rw [hx0] at x2
    simp only [kidsW, hy] at x2
    have c38 := hit y s (hf' y hym) x3
    have K2 := K y s (hf' y hym) x3
    have e2 : (k : Int) + 1 = ((k + 1 : Nat) : Int) := by omega
    generalize it y s = p at x2 c38 K2
    obtain ⟨er, b4, i4⟩ := p
    obtain ⟨b3, i3⟩ := s
    simp only at x2 c38 K2
    obtain ⟨yk, yn, ybn, yb, ykn, yks⟩ := y
    rw [if_neg (by simp), if_neg (by simp)] at x2
    rw [av_mk'] at c38
    by_cases he : er = 0
    · subst he
      rw [if_neg (by simp)] at x2
      repeat' first
       | with_reducible refine Rl.go (by constructor <;> decide) ?_
       | ((with_reducible first | refine hK _ ?_ | refine hK.1 ?_ | refine hK.2 ?_); clear hK K)
       | ((with_reducible refine condS hK (fun hg => ?_) fun hg => ?_) <;> clear hK K <;> (try simp only [hgW] at hg) <;> try (exfalso; omega))
       | ((with_reducible refine callE_B3 c38 ?_); simp -implicitDefEqProofs only [eqOk_true, WS.cells, hy, av_mk', hd1, hw, Int.cast_ofNat_Int, hn, go_sem, simprocAttr]; (skip; try (simp (disch := omega) only [wrW]; try simp -implicitDefEqProofs only [WS.cells, hy, av_mk', hd1, hw, Int.cast_ofNat_Int, hn, go_sem, simprocAttr])); fail_if_success (with_reducible refine eqOk_mk ?_))
       | ((first | ((with_reducible first | refine Rk.go k48_VsCEncG (by constructor) ?_ | refine Rd.go 15 k48_VsCEncG a48_15_VsCEncG o48_15_VsCEncG mixed (by constructor) (by kernel_rfl) (by kernel_rfl) ?_); intro K hK) | with_reducible refine Rr.go [] (by constructor) ?_ | (with_reducible refine guardP_split (fun hg => ?_) fun hg => ?_) <;> (try simp only [hg]) <;> (try simp only [hgW] at hg)) <;> simp -implicitDefEqProofs only [WS.cells, hy, av_mk', hd1, hw, Int.cast_ofNat_Int, hn, go_sem, simprocAttr] <;> try (simp (disch := omega) only [wrW]; try simp -implicitDefEqProofs only [WS.cells, hy, av_mk', hd1, hw, Int.cast_ofNat_Int, hn, go_sem, simprocAttr]))
       | with_reducible refine And.intro (by first | omega | (simp only [hgW]; omega)) ?_
       | (exfalso; omega)
      refine ⟨(k + 1, ⟨b4, i4⟩), ?_, ⟨by simp only; omega, x2, K2 rfl⟩, by simp only; omega⟩
      rw [e2]
      simp -implicitDefEqProofs only [WS.cells, Int.cast_ofNat_Int, hn, go_sem, simprocAttr]
      try rfl
    · rw [if_pos he] at x2
      subst x2
      repeat' first
       | with_reducible refine Rl.go (by constructor <;> decide) ?_
       | ((with_reducible first | refine hK _ ?_ | refine hK.1 ?_ | refine hK.2 ?_); clear hK K)
       | ((with_reducible refine condS hK (fun hg => ?_) fun hg => ?_) <;> clear hK K <;> (try simp only [hgW] at hg) <;> try (exfalso; omega))
       | ((with_reducible refine callE_B3 c38 ?_); simp -implicitDefEqProofs only [eqOk_true, WS.cells, hy, av_mk', hd1, hw, Int.cast_ofNat_Int, hn, go_sem, simprocAttr]; (skip; try (simp (disch := omega) only [wrW]; try simp -implicitDefEqProofs only [WS.cells, hy, av_mk', hd1, hw, Int.cast_ofNat_Int, hn, go_sem, simprocAttr])); fail_if_success (with_reducible refine eqOk_mk ?_))
       | ((first | ((with_reducible first | refine Rk.go k48_VsCEncG (by constructor) ?_ | refine Rd.go 15 k48_VsCEncG a48_15_VsCEncG o48_15_VsCEncG mixed (by constructor) (by kernel_rfl) (by kernel_rfl) ?_); intro K hK) | with_reducible refine Rr.go [] (by constructor) ?_ | (with_reducible refine guardP_split (fun hg => ?_) fun hg => ?_) <;> (try simp only [hg]) <;> (try simp only [hgW] at hg)) <;> simp -implicitDefEqProofs only [WS.cells, hy, av_mk', hd1, hw, Int.cast_ofNat_Int, hn, go_sem, simprocAttr] <;> try (simp (disch := omega) only [wrW]; try simp -implicitDefEqProofs only [WS.cells, hy, av_mk', hd1, hw, Int.cast_ofNat_Int, hn, go_sem, simprocAttr]))
       | with_reducible refine And.intro (by first | omega | (simp only [hgW]; omega)) ?_
       | (exfalso; omega)
  · have hPt : P = true := by rw [hP]; rfl
    subst hPt
    have hr := hr rfl
    have hq2 := hq2 rfl
    refine CallsB.introF Tryd.func48 rfl (by show 3 ≤ 72; decide) ?_
    rintro X hX
    have hn : X.n = 72 := hX
    unfold Tryd.f48
    dsimp only
    rw [entryB31]
    repeat' first
     | with_reducible refine Rl.go (by constructor <;> decide) ?_
     | ((with_reducible first | refine hK _ ?_ | refine hK.1 ?_ | refine hK.2 ?_); clear hK K)
     | ((with_reducible refine condS hK (fun hg => ?_) fun hg => ?_) <;> clear hK K <;> (try simp only [hgW] at hg) <;> try (exfalso; omega))
     | ((with_reducible refine callE_B3 c47 ?_); simp -implicitDefEqProofs only [eqOk_true, WS.cells, hk1, hr, hq2, Int.cast_ofNat_Int, hn, go_sem, simprocAttr]; (skip; try (simp (disch := omega) only [wrW]; try simp -implicitDefEqProofs only [WS.cells, hk1, hr, hq2, Int.cast_ofNat_Int, hn, go_sem, simprocAttr])); fail_if_success (with_reducible refine eqOk_mk ?_))
     | ((first | ((with_reducible first | refine Rk.go k48_VsCEncG (by constructor) ?_ | refine Rd.go 15 k48_VsCEncG a48_15_VsCEncG o48_15_VsCEncG mixed (by constructor) (by kernel_rfl) (by kernel_rfl) ?_); intro K hK) | with_reducible refine Rr.go [] (by constructor) ?_ | (with_reducible refine guardP_split (fun hg => ?_) fun hg => ?_) <;> (try simp only [hg]) <;> (try simp only [hgW] at hg)) <;> simp -implicitDefEqProofs only [WS.cells, hk1, hr, hq2, Int.cast_ofNat_Int, hn, go_sem, simprocAttr] <;> try (simp (disch := omega) only [wrW]; try simp -implicitDefEqProofs only [WS.cells, hk1, hr, hq2, Int.cast_ofNat_Int, hn, go_sem, simprocAttr]))
     | with_reducible refine And.intro (by first | omega | (simp only [hgW]; omega)) ?_
     | (exfalso; omega)
    refine AWP.loopX [0, 2, 4, 6, 32, 33, 34] [9] (fun x : Nat × WS => St.mk (lk [(0, .ptr 1000000 0), (2, .int .i64 ((d + 1 : Nat) : Int)), (4, .ptr 4 0), (6, .int .i64 0), (32, .sl none kni 4 (kids.map CI.av)), (33, .int .i64 (kids.length : Int)), (34, .int .i64 (x.1 : Int))])
        (lkB [(1000000, x.2.cells (4, 0)), (4, [.int .u8 6, .int .u64 (ni : Int), .sl none bni 1 (bi.map u8), .sl none kni 4 (kids.map CI.av)])]) (hasS []) (hasS []) (hasN []) (lkR []))
      (fun x => x.1 ≤ kids.length ∧ kidsW it badO true kids (kids.length - x.1) x.1 x.2 = R ∧ x.2.Ok) (fun x => kids.length - x.1) (0, ⟨b', items'⟩) ?_ ⟨Nat.zero_le _, hR, hp⟩ ?_
    · simp -implicitDefEqProofs only [WS.cells, Int.cast_ofNat_Int, hn, go_sem, simprocAttr]
      try rfl
    rintro ⟨k, s⟩ ⟨x1, x2, x3⟩
    simp only at x1 x2 x3
    by_cases hkn : k = kids.length
    · subst hkn
      rw [Nat.sub_self] at x2
      simp only [kidsW] at x2
      subst x2
      obtain ⟨b3, i3⟩ := s
      repeat' first
       | with_reducible refine Rl.go (by constructor <;> decide) ?_
       | ((with_reducible first | refine hK _ ?_ | refine hK.1 ?_ | refine hK.2 ?_); clear hK K)
       | ((with_reducible refine condS hK (fun hg => ?_) fun hg => ?_) <;> clear hK K <;> (try simp only [hgW] at hg) <;> try (exfalso; omega))
       | ((first | ((with_reducible first | refine Rk.go k48_VsCEncG (by constructor) ?_ | refine Rd.go 15 k48_VsCEncG a48_15_VsCEncG o48_15_VsCEncG mixed (by constructor) (by kernel_rfl) (by kernel_rfl) ?_); intro K hK) | with_reducible refine Rr.go [] (by constructor) ?_ | (with_reducible refine guardP_split (fun hg => ?_) fun hg => ?_) <;> (try simp only [hg]) <;> (try simp only [hgW] at hg)) <;> simp -implicitDefEqProofs only [WS.cells, Int.cast_ofNat_Int, hn, go_sem, simprocAttr] <;> try (simp (disch := omega) only [wrW]; try simp -implicitDefEqProofs only [WS.cells, Int.cast_ofNat_Int, hn, go_sem, simprocAttr]))
       | with_reducible refine And.intro (by first | omega | (simp only [hgW]; omega)) ?_
       | (exfalso; omega)
    obtain ⟨y, hy⟩ : ∃ y, kids.getD k default = y := ⟨_, rfl⟩
    have hym : y ∈ kids := by
      rw [← hy, List.getD_eq_getElem?_getD, List.getElem?_eq_getElem (by omega)]
      exact List.getElem_mem _
    have hx0 : kids.length - k = (kids.length - (k + 1)) + 1 := by omega
    rw [hx0] at x2
    simp only [kidsW, hy] at x2
    have c38 := hit y s (hf' y hym) x3
    have K2 := K y s (hf' y hym) x3
    have e2 : (k : Int) + 1 = ((k + 1 : Nat) : Int) := by omega
    generalize it y s = p at x2 c38 K2
    obtain ⟨er, b4, i4⟩ := p
    obtain ⟨b3, i3⟩ := s
    simp only at x2 c38 K2
    obtain ⟨z, hz⟩ : ∃ z, kids.getD (k - 2) default = z := ⟨_, rfl⟩
    rw [hz] at x2
    have c57 := f57_ok y
    have c58 := f58_ok z y
    obtain ⟨o, ho⟩ : ∃ o, orderS z y = o := ⟨_, rfl⟩
    have hbo : badO z y = decide (0 ≤ o) := by unfold badO; rw [ho]
    rw [hbo] at x2
    rw [ho] at c58
    have hidx : ((k : Int) - 2).toNat = k - 2 := by omega
    obtain ⟨pl, hpl⟩ : ∃ pl, plainS y = pl := ⟨_, rfl⟩
    rw [hpl] at c57 x2
    obtain ⟨yk, yn, ybn, yb, ykn, yks⟩ := y
    obtain ⟨zk, zn, zbn, zb, zkn, zks⟩ := z
    rw [av_mk'] at c38 c57 c58
    rw [av_mk'] at c58
    have next : er = 0 → pl = true ∨ k % 2 = 1 → ¬ (k % 2 = 0 ∧ 0 < k ∧ 0 ≤ o) → kidsW it badO true kids (kids.length - (k + 1)) (k + 1) ⟨b4, i4⟩ = R := by
      intro h1 h2 h3
      rw [if_neg (fun hh => by
        rcases h2 with h2 | h2
        · rw [h2] at hh; exact absurd hh.2.2 (by simp)
        · have := hh.2.1; omega), if_neg (by rintro ⟨-, a1, a2, a3⟩; exact h3 ⟨a1, a2, by simpa using a3⟩), if_neg (by simpa using h1)] at x2
      exact x2
    have stop : er ≠ 0 → pl = true ∨ k % 2 = 1 → ¬ (k % 2 = 0 ∧ 0 < k ∧ 0 ≤ o) → R = (er, ⟨b4, i4⟩) := by
      intro h1 h2 h3
      rw [if_neg (fun hh => by
        rcases h2 with h2 | h2
        · rw [h2] at hh; exact absurd hh.2.2 (by simp)
        · have := hh.2.1; omega), if_neg (by rintro ⟨-, a1, a2, a3⟩; exact h3 ⟨a1, a2, by simpa using a3⟩), if_pos h1] at x2
      exact x2.symm
    by_cases hA : k % 2 = 0 ∧ pl = false
    · obtain ⟨h1, h2⟩ := hA
      subst h2
      rw [if_pos ⟨trivial, h1, rfl⟩] at x2
      subst x2
      repeat' first
       | with_reducible refine Rl.go (by constructor <;> decide) ?_
       | ((with_reducible first | refine hK _ ?_ | refine hK.1 ?_ | refine hK.2 ?_); clear hK K)
       | ((with_reducible refine condS hK (fun hg => ?_) fun hg => ?_) <;> clear hK K <;> (try simp only [hgW] at hg) <;> try (exfalso; omega))
       | ((first | ((with_reducible first | refine Rk.go k48_VsCEncG (by constructor) ?_ | refine Rd.go 15 k48_VsCEncG a48_15_VsCEncG o48_15_VsCEncG mixed (by constructor) (by kernel_rfl) (by kernel_rfl) ?_); intro K hK) | with_reducible refine Rr.go [] (by constructor) ?_ | (with_reducible refine guardP_split (fun hg => ?_) fun hg => ?_) <;> (try simp only [hg]) <;> (try simp only [hgW] at hg) | refine Rc.go c57 (by constructor) ?_) <;> simp -implicitDefEqProofs only [WS.cells, hy, av_mk', hd1, hw, Int.cast_ofNat_Int, hn, go_sem, simprocAttr] <;> try (simp (disch := omega) only [wrW]; try simp -implicitDefEqProofs only [WS.cells, hy, av_mk', hd1, hw, Int.cast_ofNat_Int, hn, go_sem, simprocAttr]))
       | with_reducible refine And.intro (by first | omega | (simp only [hgW]; omega)) ?_
       | (exfalso; omega)
    by_cases hB : k % 2 = 0 ∧ 0 < k ∧ 0 ≤ o
    · have hpt : pl = true := by
        cases pl with
        | true => rfl
        | false => exact absurd ⟨hB.1, rfl⟩ hA
      subst hpt
      rw [if_neg (by simp), if_pos ⟨trivial, hB.1, hB.2.1, by simpa using hB.2.2⟩] at x2
      subst x2
      repeat' first
       | with_reducible refine Rl.go (by constructor <;> decide) ?_
       | ((with_reducible first | refine hK _ ?_ | refine hK.1 ?_ | refine hK.2 ?_); clear hK K)
       | ((with_reducible refine condS hK (fun hg => ?_) fun hg => ?_) <;> clear hK K <;> (try simp only [hgW] at hg) <;> try (exfalso; omega))
       | ((first | ((with_reducible first | refine Rk.go k48_VsCEncG (by constructor) ?_ | refine Rd.go 15 k48_VsCEncG a48_15_VsCEncG o48_15_VsCEncG mixed (by constructor) (by kernel_rfl) (by kernel_rfl) ?_); intro K hK) | with_reducible refine Rr.go [] (by constructor) ?_ | (with_reducible refine guardP_split (fun hg => ?_) fun hg => ?_) <;> (try simp only [hg]) <;> (try simp only [hgW] at hg) | refine Rc.go c57 (by constructor) ?_ | refine Rc.go c58 (by constructor) ?_) <;> simp -implicitDefEqProofs only [WS.cells, hy, hz, hidx, av_mk', hd1, hw, Int.cast_ofNat_Int, hn, go_sem, simprocAttr] <;> try (simp (disch := omega) only [wrW]; try simp -implicitDefEqProofs only [WS.cells, hy, hz, hidx, av_mk', hd1, hw, Int.cast_ofNat_Int, hn, go_sem, simprocAttr]))
       | with_reducible refine And.intro (by first | omega | (simp only [hgW]; omega)) ?_
       | (exfalso; omega)
    have hC : pl = true ∨ k % 2 = 1 := by
      cases pl with
      | true => exact .inl rfl
      | false => exact .inr (by
          by_cases hk2 : k % 2 = 0
          · exact absurd ⟨hk2, rfl⟩ hA
          · omega)
    by_cases he : er = 0
    · have n2 := next he hC hB
      subst he
      have n3 := K2 rfl
      rcases hC with rfl | hC
      · skip
        repeat' first
         | with_reducible refine Rl.go (by constructor <;> decide) ?_
         | ((with_reducible first | refine hK _ ?_ | refine hK.1 ?_ | refine hK.2 ?_); clear hK K)
         | ((with_reducible refine condS hK (fun hg => ?_) fun hg => ?_) <;> clear hK K <;> (try simp only [hgW] at hg) <;> try (exfalso; omega))
         | ((with_reducible refine callE_B3 c38 ?_); simp -implicitDefEqProofs only [eqOk_true, WS.cells, hy, hz, hidx, av_mk', hd1, hw, Int.cast_ofNat_Int, hn, go_sem, simprocAttr]; (skip; try (simp (disch := omega) only [wrW]; try simp -implicitDefEqProofs only [WS.cells, hy, hz, hidx, av_mk', hd1, hw, Int.cast_ofNat_Int, hn, go_sem, simprocAttr])); fail_if_success (with_reducible refine eqOk_mk ?_))
         | ((first | ((with_reducible first | refine Rk.go k48_VsCEncG (by constructor) ?_ | refine Rd.go 15 k48_VsCEncG a48_15_VsCEncG o48_15_VsCEncG mixed (by constructor) (by kernel_rfl) (by kernel_rfl) ?_); intro K hK) | with_reducible refine Rr.go [] (by constructor) ?_ | (with_reducible refine guardP_split (fun hg => ?_) fun hg => ?_) <;> (try simp only [hg]) <;> (try simp only [hgW] at hg) | refine Rc.go c57 (by constructor) ?_ | refine Rc.go c58 (by constructor) ?_) <;> simp -implicitDefEqProofs only [WS.cells, hy, hz, hidx, av_mk', hd1, hw, Int.cast_ofNat_Int, hn, go_sem, simprocAttr] <;> try (simp (disch := omega) only [wrW]; try simp -implicitDefEqProofs only [WS.cells, hy, hz, hidx, av_mk', hd1, hw, Int.cast_ofNat_Int, hn, go_sem, simprocAttr]))
         | with_reducible refine And.intro (by first | omega | (simp only [hgW]; omega)) ?_
         | (exfalso; omega)
        all_goals refine ⟨(k + 1, ⟨b4, i4⟩), ?_, ⟨by simp only; omega, n2, n3⟩, by simp only; omega⟩
        all_goals rw [e2]
        all_goals simp -implicitDefEqProofs only [WS.cells, Int.cast_ofNat_Int, hn, go_sem, simprocAttr]
        all_goals try rfl
      · skip
        repeat' first
         | with_reducible refine Rl.go (by constructor <;> decide) ?_
         | ((with_reducible first | refine hK _ ?_ | refine hK.1 ?_ | refine hK.2 ?_); clear hK K)
         | ((with_reducible refine condS hK (fun hg => ?_) fun hg => ?_) <;> clear hK K <;> (try simp only [hgW] at hg) <;> try (exfalso; omega))
         | ((with_reducible refine callE_B3 c38 ?_); simp -implicitDefEqProofs only [eqOk_true, WS.cells, hy, hz, hidx, av_mk', hd1, hw, Int.cast_ofNat_Int, hn, go_sem, simprocAttr]; (skip; try (simp (disch := omega) only [wrW]; try simp -implicitDefEqProofs only [WS.cells, hy, hz, hidx, av_mk', hd1, hw, Int.cast_ofNat_Int, hn, go_sem, simprocAttr])); fail_if_success (with_reducible refine eqOk_mk ?_))
         | ((first | ((with_reducible first | refine Rk.go k48_VsCEncG (by constructor) ?_ | refine Rd.go 15 k48_VsCEncG a48_15_VsCEncG o48_15_VsCEncG mixed (by constructor) (by kernel_rfl) (by kernel_rfl) ?_); intro K hK) | with_reducible refine Rr.go [] (by constructor) ?_ | (with_reducible refine guardP_split (fun hg => ?_) fun hg => ?_) <;> (try simp only [hg]) <;> (try simp only [hgW] at hg)) <;> simp -implicitDefEqProofs only [WS.cells, hy, hz, hidx, av_mk', hd1, hw, Int.cast_ofNat_Int, hn, go_sem, simprocAttr] <;> try (simp (disch := omega) only [wrW]; try simp -implicitDefEqProofs only [WS.cells, hy, hz, hidx, av_mk', hd1, hw, Int.cast_ofNat_Int, hn, go_sem, simprocAttr]))
         | with_reducible refine And.intro (by first | omega | (simp only [hgW]; omega)) ?_
         | (exfalso; omega)
        all_goals refine ⟨(k + 1, ⟨b4, i4⟩), ?_, ⟨by simp only; omega, n2, n3⟩, by simp only; omega⟩
        all_goals rw [e2]
        all_goals simp -implicitDefEqProofs only [WS.cells, Int.cast_ofNat_Int, hn, go_sem, simprocAttr]
        all_goals try rfl
    · have n2 := stop he hC hB
      subst n2
      rcases hC with rfl | hC
      · skip
        repeat' first
         | with_reducible refine Rl.go (by constructor <;> decide) ?_
         | ((with_reducible first | refine hK _ ?_ | refine hK.1 ?_ | refine hK.2 ?_); clear hK K)
         | ((with_reducible refine condS hK (fun hg => ?_) fun hg => ?_) <;> clear hK K <;> (try simp only [hgW] at hg) <;> try (exfalso; omega))
         | ((with_reducible refine callE_B3 c38 ?_); simp -implicitDefEqProofs only [eqOk_true, WS.cells, hy, hz, hidx, av_mk', hd1, hw, Int.cast_ofNat_Int, hn, go_sem, simprocAttr]; (skip; try (simp (disch := omega) only [wrW]; try simp -implicitDefEqProofs only [WS.cells, hy, hz, hidx, av_mk', hd1, hw, Int.cast_ofNat_Int, hn, go_sem, simprocAttr])); fail_if_success (with_reducible refine eqOk_mk ?_))
         | ((first | ((with_reducible first | refine Rk.go k48_VsCEncG (by constructor) ?_ | refine Rd.go 15 k48_VsCEncG a48_15_VsCEncG o48_15_VsCEncG mixed (by constructor) (by kernel_rfl) (by kernel_rfl) ?_); intro K hK) | with_reducible refine Rr.go [] (by constructor) ?_ | (with_reducible refine guardP_split (fun hg => ?_) fun hg => ?_) <;> (try simp only [hg]) <;> (try simp only [hgW] at hg) | refine Rc.go c57 (by constructor) ?_ | refine Rc.go c58 (by constructor) ?_) <;> simp -implicitDefEqProofs only [WS.cells, hy, hz, hidx, av_mk', hd1, hw, Int.cast_ofNat_Int, hn, go_sem, simprocAttr] <;> try (simp (disch := omega) only [wrW]; try simp -implicitDefEqProofs only [WS.cells, hy, hz, hidx, av_mk', hd1, hw, Int.cast_ofNat_Int, hn, go_sem, simprocAttr]))
         | with_reducible refine And.intro (by first | omega | (simp only [hgW]; omega)) ?_
         | (exfalso; omega)
      · skip
        repeat' first
         | with_reducible refine Rl.go (by constructor <;> decide) ?_
         | ((with_reducible first | refine hK _ ?_ | refine hK.1 ?_ | refine hK.2 ?_); clear hK K)
         | ((with_reducible refine condS hK (fun hg => ?_) fun hg => ?_) <;> clear hK K <;> (try simp only [hgW] at hg) <;> try (exfalso; omega))
         | ((with_reducible refine callE_B3 c38 ?_); simp -implicitDefEqProofs only [eqOk_true, WS.cells, hy, hz, hidx, av_mk', hd1, hw, Int.cast_ofNat_Int, hn, go_sem, simprocAttr]; (skip; try (simp (disch := omega) only [wrW]; try simp -implicitDefEqProofs only [WS.cells, hy, hz, hidx, av_mk', hd1, hw, Int.cast_ofNat_Int, hn, go_sem, simprocAttr])); fail_if_success (with_reducible refine eqOk_mk ?_))
         | ((first | ((with_reducible first | refine Rk.go k48_VsCEncG (by constructor) ?_ | refine Rd.go 15 k48_VsCEncG a48_15_VsCEncG o48_15_VsCEncG mixed (by constructor) (by kernel_rfl) (by kernel_rfl) ?_); intro K hK) | with_reducible refine Rr.go [] (by constructor) ?_ | (with_reducible refine guardP_split (fun hg => ?_) fun hg => ?_) <;> (try simp only [hg]) <;> (try simp only [hgW] at hg)) <;> simp -implicitDefEqProofs only [WS.cells, hy, hz, hidx, av_mk', hd1, hw, Int.cast_ofNat_Int, hn, go_sem, simprocAttr] <;> try (simp (disch := omega) only [wrW]; try simp -implicitDefEqProofs only [WS.cells, hy, hz, hidx, av_mk', hd1, hw, Int.cast_ofNat_Int, hn, go_sem, simprocAttr]))
         | with_reducible refine And.intro (by first | omega | (simp only [hgW]; omega)) ?_
         | (exfalso; omega)
theorem f38_ok {valid : List UInt8 → Bool} (hv : ValidI valid) : ∀ d, d ≤ 8 → ItWOk (itemW valid badO d) d := by
  intro d hd x s hf hs
  have hL := hf.here
  have put : ∀ (l : List UInt8), s.items + 1 ≤ 512 → l.length ≤ 100010 → (WS.put { s with items := s.items + 1 } l).Ok := by
    intro l h1 hl
    have := hs.2
    refine ⟨by show s.items + 1 ≤ 512; omega, ?_⟩
    show (s.b ++ l).length ≤ 100010 * (s.items + 1)
    rw [List.length_append]
    omega
  obtain ⟨R, hR⟩ : ∃ R, itemW valid badO d x s = R := ⟨_, rfl⟩
  rw [hR]
  unfold itemW at hR
  simp only at hR
  by_cases c1 : 512 < s.items + 1
  · rw [if_pos c1] at hR
    subst hR
    exact f38_many d x s hs c1
  rw [if_neg c1] at hR
  have c1' : s.items + 1 ≤ 512 := by omega
  by_cases c2 : x.k = 1 ∨ x.k = 2
  · rw [if_pos c2] at hR
    subst hR
    exact f38_num d x s hf hs c1' c2
  rw [if_neg c2] at hR
  by_cases c3 : x.k = 3 ∨ x.k = 4
  · rw [if_pos c3] at hR
    by_cases c4 : x.k = 4 ∧ valid x.b = false
    · rw [if_pos c4] at hR
      subst hR
      exact f38_bad hv d x s hf hs c1' c4.1 c4.2
    · rw [if_neg c4] at hR
      subst hR
      exact f38_txt hv d x s hf hs c1' c3 c4
  rw [if_neg c3] at hR
  by_cases c5 : x.k = 7 ∨ x.k = 8 ∨ x.k = 9
  · rw [if_pos c5] at hR
    subst hR
    exact f38_one d x s hf hs c1' c5
  rw [if_neg c5] at hR
  by_cases c6 : x.k = 5 ∨ x.k = 6
  · rw [if_pos c6] at hR
    obtain ⟨r, s'⟩ := R
    refine f38_grp d x s hs c1' c6 r s' ?_
    cases d with
    | zero =>
      cases hR
      exact f48_deep x _
    | succ d =>
      simp only at hR
      by_cases c7 : x.k = 6 ∧ x.ks.length % 2 = 1
      · rw [if_pos c7] at hR
        cases hR
        exact f48_odd d x _ c7.1 c7.2
      rw [if_neg c7] at hR
      have hl := hdW_le (x.k - 1) (if x.k = 6 then x.ks.length / 2 else x.ks.length)
      have h := f48_go d (by omega) (f38_ok hv d (by omega)) (itemW_ok valid badO d) x hf { s with items := s.items + 1 } (by have := hs.1; have := hs.2; simp only; omega)
        (if x.k = 6 then x.ks.length / 2 else x.ks.length) (by split <;> omega) (put _ c1' (by omega)) (decide (x.k = 6)) rfl
      rw [hR] at h
      exact h
  rw [if_neg c6] at hR
  subst hR
  exact f38_else d x s hf hs c1' (by have := hL.1; omega)
end Go.Proofs.YtijcpdgfbboamaaDoor
open Go Go.VS
namespace Go.Proofs.YtijcpdgfbboamaaDoor
set_option linter.unusedVariables false
set_option linter.unusedSimpArgs false
set_option maxRecDepth 20000
set_option maxHeartbeats 4000000
def k25_VsCEncE : List Nat := [0,1,2,3,4,5,12,19]
attribute [go_sem] k25_VsCEncE
theorem f25_own {valid : List UInt8 → Bool} (hv : ValidI valid) (x : CI) (hf : Fit 8 x) : CallsP Tryd.prog 25 [x.av] (.tup [bytesOwn (encS valid x).1, .int .i64 ((encS valid x).2 : Int)]) := by
  have c38 := f38_ok hv 8 (Nat.le_refl _) x ⟨[], 0⟩ hf ⟨by decide, by decide⟩
  have K := (itemW_keeps valid badO 8).grow x ⟨[], 0⟩
  unfold encS
  simp only
  generalize itemW valid badO 8 x ⟨[], 0⟩ = p at *
  obtain ⟨er, b, items⟩ := p
  obtain ⟨ki, ni, bni, bi, kni, kids⟩ := x
  rw [av_mk'] at *
  simp only at c38 K ⊢
  have c38' : CallsB Tryd.prog 38 [.ptr 1000000 0, .agg [.int .u8 (ki : Int), .int .u64 (ni : Int), .sl none bni 1 (bi.map u8), .sl none kni 4 (kids.map CI.av)], .int .i64 8] [[.sl (some ((4, 0), 0)) true 1 [], .int .i64 0]] (.int .i64 (er : Int)) [WS.cells ⟨b, items⟩ (3, 0)] := c38
  refine CallsP.intro Tryd.func25 rfl (by show 1 ≤ 24; decide) ?_
  rintro X hX
  have hn : X.n = 24 := hX
  unfold Tryd.f25
  dsimp only
  rw [entry1]
  repeat' first
   | (with_reducible refine markQ 2 ?_)
   | with_reducible refine Rl.go (by constructor <;> decide) ?_
   | ((with_reducible first | refine hK _ ?_ | refine hK.1 ?_ | refine hK.2 ?_); clear hK K)
   | ((with_reducible refine condS hK (fun hg => ?_) fun hg => ?_) <;> clear hK K <;> (try simp only [hgW] at hg) <;> try (exfalso; omega))
   | ((first | ((with_reducible first | refine Rk.go k25_VsCEncE (by constructor) ?_); intro K hK) | with_reducible refine Rr.go [] (by constructor) ?_ | (with_reducible refine guardP_split (fun hg => ?_) fun hg => ?_) <;> (try simp only [hg]) <;> (try simp only [hgW] at hg)) <;> simp -implicitDefEqProofs only [Int.cast_ofNat_Int, hn, go_sem, simprocAttr] <;> try simp (disch := omega) only [wrW])
   | with_reducible refine And.intro (by first | omega | (simp only [hgW]; omega)) ?_
   | (exfalso; omega)
  unfold MarkQ
  refine AWP.adoptB 7 0 (0, 999) 0 1 (by rfl) (by rfl) ?_
  by_cases he : er = 0
  · subst he
    rw [if_neg (by simp)]
    have hbe : b.isEmpty = false := by
      have := K rfl
      cases b with
      | nil => simp at this
      | cons => rfl
    by_cases hl : 8192 < b.length
    · rw [if_pos hl]
      repeat' first
       | with_reducible refine Rl.go (by constructor <;> decide) ?_
       | ((with_reducible first | refine hK _ ?_ | refine hK.1 ?_ | refine hK.2 ?_); clear hK K)
       | ((with_reducible refine condS hK (fun hg => ?_) fun hg => ?_) <;> clear hK K <;> (try simp only [hgW] at hg) <;> try (exfalso; omega))
       | ((with_reducible refine callE_B3 (c38') ?_); simp -implicitDefEqProofs only [eqOk_true, WS.cells, bytesOwn, cond_true, cond_false, Int.cast_ofNat_Int, hn, go_sem, simprocAttr]; (skip; try simp (disch := omega) only [wrW]); fail_if_success (with_reducible refine eqOk_mk ?_))
       | ((first | ((with_reducible first | refine Rk.go k25_VsCEncE (by constructor) ?_); intro K hK) | with_reducible refine Rr.go [] (by constructor) ?_ | (with_reducible refine guardP_split (fun hg => ?_) fun hg => ?_) <;> (try simp only [hg]) <;> (try simp only [hgW] at hg)) <;> simp -implicitDefEqProofs only [WS.cells, bytesOwn, cond_true, cond_false, Int.cast_ofNat_Int, hn, go_sem, simprocAttr] <;> try simp (disch := omega) only [wrW])
       | with_reducible refine And.intro (by first | omega | (simp only [hgW]; omega)) ?_
       | (exfalso; omega)
    · rw [if_neg hl]
      repeat' first
       | with_reducible refine Rl.go (by constructor <;> decide) ?_
       | ((with_reducible first | refine hK _ ?_ | refine hK.1 ?_ | refine hK.2 ?_); clear hK K)
       | ((with_reducible refine condS hK (fun hg => ?_) fun hg => ?_) <;> clear hK K <;> (try simp only [hgW] at hg) <;> try (exfalso; omega))
       | ((with_reducible refine callE_B3 (c38') ?_); simp -implicitDefEqProofs only [eqOk_true, WS.cells, bytesOwn, cond_true, cond_false, hbe, Int.cast_ofNat_Int, hn, go_sem, simprocAttr]; (skip; try simp (disch := omega) only [wrW]); fail_if_success (with_reducible refine eqOk_mk ?_))
       | ((first | ((with_reducible first | refine Rk.go k25_VsCEncE (by constructor) ?_); intro K hK) | with_reducible refine Rr.go [] (by constructor) ?_ | (with_reducible refine guardP_split (fun hg => ?_) fun hg => ?_) <;> (try simp only [hg]) <;> (try simp only [hgW] at hg)) <;> simp -implicitDefEqProofs only [WS.cells, bytesOwn, cond_true, cond_false, hbe, Int.cast_ofNat_Int, hn, go_sem, simprocAttr] <;> try simp (disch := omega) only [wrW])
       | with_reducible refine And.intro (by first | omega | (simp only [hgW]; omega)) ?_
       | (exfalso; omega)
  · rw [if_pos he]
    repeat' first
     | with_reducible refine Rl.go (by constructor <;> decide) ?_
     | ((with_reducible first | refine hK _ ?_ | refine hK.1 ?_ | refine hK.2 ?_); clear hK K)
     | ((with_reducible refine condS hK (fun hg => ?_) fun hg => ?_) <;> clear hK K <;> (try simp only [hgW] at hg) <;> try (exfalso; omega))
     | ((with_reducible refine callE_B3 (c38') ?_); simp -implicitDefEqProofs only [eqOk_true, WS.cells, bytesOwn, cond_true, cond_false, Int.cast_ofNat_Int, hn, go_sem, simprocAttr]; (skip; try simp (disch := omega) only [wrW]); fail_if_success (with_reducible refine eqOk_mk ?_))
     | ((first | ((with_reducible first | refine Rk.go k25_VsCEncE (by constructor) ?_); intro K hK) | with_reducible refine Rr.go [] (by constructor) ?_ | (with_reducible refine guardP_split (fun hg => ?_) fun hg => ?_) <;> (try simp only [hg]) <;> (try simp only [hgW] at hg)) <;> simp -implicitDefEqProofs only [WS.cells, bytesOwn, cond_true, cond_false, Int.cast_ofNat_Int, hn, go_sem, simprocAttr] <;> try simp (disch := omega) only [wrW])
     | with_reducible refine And.intro (by first | omega | (simp only [hgW]; omega)) ?_
     | (exfalso; omega)
theorem f25_ok {valid : List UInt8 → Bool} (hv : ValidI valid) (x : CI) (hf : Fit 8 x) : CallsP Tryd.prog 25 [x.av] (.tup [bytesAV (encS valid x).1, .int .i64 ((encS valid x).2 : Int)]) := own_bytes (f25_own hv x hf)
end Go.Proofs.YtijcpdgfbboamaaDoor
