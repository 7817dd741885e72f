/- What four digits of base sixteen come to. -/
import Derived.Test.YtfemncfhiihckaaDoorVsJVal2
open Go Go.VS
namespace Go.Proofs.YtfemncfhiihckaaDoor
set_option linter.unusedVariables false
set_option linter.unusedSimpArgs false
set_option maxRecDepth 20000
set_option maxHeartbeats 4000000
def hexS : List UInt8 := [48, 49, 50, 51, 52, 53, 54, 55, 56, 57, 97, 98, 99, 100, 101, 102]
def hexG : List UInt8 := [48, 49, 50, 51, 52, 53, 54, 55, 56, 57, 65, 66, 67, 68, 69, 70]
/-- What has been found after so many. -/
def vAt (c : UInt8) : Nat → Int
  | 0 => -1
  | k + 1 => if hexS.getD k default = c ∨ hexG.getD k default = c then (k : Int) else vAt c k
def hexI (o : Option Nat) : Int := match o with | some v => (v : Int) | none => -1
set_option maxRecDepth 100000 in
theorem vAt_all : ∀ x : Fin 256, vAt (UInt8.ofNat x.val) 16 = hexI (hexV (UInt8.ofNat x.val)) := by decide +kernel
theorem vAt_16 (c : UInt8) : vAt c 16 = hexI (hexV c) := by
  have h := vAt_all ⟨c.toNat, c.toNat_lt⟩
  simp only at h
  rw [UInt8.ofNat_toNat] at h
  exact h
def k68_VsKHex : List Nat := [0,2,3,4,5,6,7,8,9,20,22,26,62,65]
def a68_1_VsKHex : List Nat := [0,1,3,7,15,0,32,96,224,511,1023]
def o68_1_VsKHex : List Nat := [0,1,2,3,4,5,6,7,8,9,10]
def a68_12_VsKHex : List Nat := [0,0,3,0,8,24,56,0,128,384,896,0,3968,8184,16376,32767,65535,131071,131071,524287,131071,1179647,3276799,7471103,131071,16908287,50462719,117571583,131071,520224767,1072824319,2146566143,4294967295,8589934591]
def o68_12_VsKHex : List Nat := [0,1,2,3,4,5,6,7,8,9,10,11,12,13,14,15,16,17,18,19,20,21,22,23,24,25,26,27,28,29,30,31,32,33]
attribute [go_sem] k68_VsKHex a68_1_VsKHex o68_1_VsKHex a68_12_VsKHex o68_12_VsKHex
theorem f68_ok (s : RJ) (nb : Bool) (h : OkJ s) : CallsB Tryd.prog 68 [.ptr 1000000 0] [s.cells nb (4, 0)] (.tup [.int .i64 ((unitS s).1.1 : Int), .bool (unitS s).1.2]) [(unitS s).2.cells nb (3, 0)] := by
  obtain ⟨b, at_, deep, nodes, err⟩ := s
  obtain ⟨g1, g2, g3⟩ := h
  unfold unitS unitP
  simp only at g1 g2 g3 ⊢
  by_cases h4 : at_ + 4 ≤ b.length
  · rw [if_pos h4]
    have a4 : (at_ : Int) + 4 = ((at_ + 4 : Nat) : Int) := by omega
    have hl4 : ((b.drop at_).take 4).length = 4 := by rw [List.length_take, List.length_drop]; omega
    have hget : ∀ i, i < 4 → b.getD (at_ + i) default = ((b.drop at_).take 4).getD i default := fun i hi => by
      rw [List.getD_eq_getElem?_getD, List.getD_eq_getElem?_getD, List.getElem?_take, if_pos hi, List.getElem?_drop]
    generalize (b.drop at_).take 4 = t at *
    obtain ⟨R, hR⟩ : ∃ R, hexN t 0 = R := ⟨_, rfl⟩
    rw [hR]
    refine CallsB.intro Tryd.func68 rfl (by show 1 ≤ 79; decide) ?_
    rintro X hX
    have hn : X.n = 79 := hX
    unfold Tryd.f68
    dsimp only
    rw [entryB11]
    repeat' first
     | with_reducible refine Rl.go (by constructor <;> decide) ?_
     | ((with_reducible first | refine hK _ ?_ | refine hK.1 ?_ | refine hK.2 ?_); clear hK K)
     | ((with_reducible refine condS hK (fun hg => ?_) fun hg => ?_) <;> clear hK K <;> (try simp only [hgW] at hg) <;> try (exfalso; omega))
     | ((first | ((with_reducible first | refine Rk.go k68_VsKHex (by constructor) ?_ | refine Rd.go 1 k68_VsKHex a68_1_VsKHex o68_1_VsKHex mixed (by constructor) (by kernel_rfl) (by kernel_rfl) ?_ | refine Rd.go 12 k68_VsKHex a68_12_VsKHex o68_12_VsKHex mixed (by constructor) (by kernel_rfl) (by kernel_rfl) ?_); intro K hK) | with_reducible refine Rr.go [] (by constructor) ?_ | (with_reducible refine guardP_split (fun hg => ?_) fun hg => ?_) <;> (try simp only [hg]) <;> (try simp only [hgW] at hg)) <;> simp -implicitDefEqProofs only [RJ.cells, hn, go_sem, simprocAttr] <;> try (simp (disch := omega) only [wrW]; try simp -implicitDefEqProofs only [RJ.cells, hn, go_sem, simprocAttr]))
     | with_reducible refine And.intro (by first | omega | (simp only [hgW]; omega)) ?_
     | (exfalso; omega)
    refine AWP.loopX [0, 2, 3, 4, 5, 6, 7] [] (fun x : Nat × Nat => St.mk (lk [(0, .ptr 1000000 0), (2, .int .i64 0), (3, .bool false), (4, .int .i64 (x.2 : Int)), (5, .str hexS), (6, .str hexG), (7, .int .i64 (x.1 : Int))]) (lkB [(1000000, (RJ.mk b at_ deep nodes err).cells nb (4, 0))]) (hasS []) (hasS []) (hasN []) (lkR []))
      (fun x => x.1 ≤ 4 ∧ x.2 < 16 ^ x.1 ∧ hexN (t.drop x.1) x.2 = R) (fun x => 4 - x.1) (0, 0) ?_ ⟨by simp, by simp, hR⟩ ?_
    · simp -implicitDefEqProofs only [RJ.cells, hn, go_sem, simprocAttr]
      try rfl
    rintro ⟨i, x⟩ ⟨hi, hx, hh⟩
    simp only at hi hx hh
    have e2 : (i : Int) + 1 = ((i + 1 : Nat) : Int) := by omega
    by_cases hi4 : i = 4
    · subst hi4
      rw [List.drop_of_length_le (by omega)] at hh
      simp only [hexN] at hh
      subst hh
      repeat' first
       | with_reducible refine Rl.go (by constructor <;> decide) ?_
       | ((with_reducible first | refine hK _ ?_ | refine hK.1 ?_ | refine hK.2 ?_); clear hK K)
       | ((with_reducible refine condS hK (fun hg => ?_) fun hg => ?_) <;> clear hK K <;> (try simp only [hgW] at hg) <;> try (exfalso; omega))
       | ((first | ((with_reducible first | refine Rk.go k68_VsKHex (by constructor) ?_ | refine Rd.go 1 k68_VsKHex a68_1_VsKHex o68_1_VsKHex mixed (by constructor) (by kernel_rfl) (by kernel_rfl) ?_ | refine Rd.go 12 k68_VsKHex a68_12_VsKHex o68_12_VsKHex mixed (by constructor) (by kernel_rfl) (by kernel_rfl) ?_); intro K hK) | with_reducible refine Rr.go [] (by constructor) ?_ | (with_reducible refine guardP_split (fun hg => ?_) fun hg => ?_) <;> (try simp only [hg]) <;> (try simp only [hgW] at hg)) <;> simp -implicitDefEqProofs only [RJ.cells, a4, hn, go_sem, simprocAttr] <;> try (simp (disch := omega) only [wrW]; try simp -implicitDefEqProofs only [RJ.cells, a4, hn, go_sem, simprocAttr]))
       | with_reducible refine And.intro (by first | omega | (simp only [hgW]; omega)) ?_
       | (exfalso; omega)
    · have hx4 : x < 4096 := Nat.lt_of_lt_of_le hx (by rw [show (4096 : Nat) = 16 ^ 3 from rfl]; exact Nat.pow_le_pow_right (by decide) (by omega))
      rw [drop_at t i (by omega)] at hh
      simp only [hexN] at hh
      obtain ⟨c, hc⟩ : ∃ c, t.getD i default = c := ⟨_, rfl⟩
      rw [hc] at hh
      have hct := c.toNat_lt
      have hbc : b.getD (at_ + i) default = c := by rw [hget i (by omega), hc]
      have mi : IntKind.i64.wrap ((at_ : Int) + (i : Int)) = ((at_ + i : Nat) : Int) := by
        rw [Go.IntWalk.i64_in _ (by omega)]; omega
      have p16 : 16 ^ (i + 1) = 16 ^ i * 16 := Nat.pow_succ ..
      repeat' first
       | with_reducible refine Rl.go (by constructor <;> decide) ?_
       | ((with_reducible first | refine hK _ ?_ | refine hK.1 ?_ | refine hK.2 ?_); clear hK K)
       | ((with_reducible refine condS hK (fun hg => ?_) fun hg => ?_) <;> clear hK K <;> (try simp only [hgW] at hg) <;> try (exfalso; omega))
       | ((first | ((with_reducible first | refine Rk.go k68_VsKHex (by constructor) ?_ | refine Rd.go 1 k68_VsKHex a68_1_VsKHex o68_1_VsKHex mixed (by constructor) (by kernel_rfl) (by kernel_rfl) ?_ | refine Rd.go 12 k68_VsKHex a68_12_VsKHex o68_12_VsKHex mixed (by constructor) (by kernel_rfl) (by kernel_rfl) ?_); intro K hK) | with_reducible refine Rr.go [] (by constructor) ?_ | (with_reducible refine guardP_split (fun hg => ?_) fun hg => ?_) <;> (try simp only [hg]) <;> (try simp only [hgW] at hg)) <;> simp -implicitDefEqProofs only [RJ.cells, hn, go_sem, simprocAttr] <;> try (simp (disch := omega) only [wrW]; try simp -implicitDefEqProofs only [RJ.cells, hn, go_sem, simprocAttr]))
       | with_reducible refine And.intro (by first | omega | (simp only [hgW]; omega)) ?_
       | (exfalso; omega)
      refine AWP.loopX [0, 2, 3, 4, 5, 6, 7, 8, 9] [] (fun k : Nat => St.mk (lk [(0, .ptr 1000000 0), (2, .int .i64 0), (3, .bool false), (4, .int .i64 (x : Int)), (5, .str hexS), (6, .str hexG), (7, .int .i64 (i : Int)), (8, .int .i64 (vAt c k)), (9, .int .i64 (k : Int))]) (lkB [(1000000, (RJ.mk b at_ deep nodes err).cells nb (4, 0))]) (hasS []) (hasS []) (hasN []) (lkR []))
        (fun k => k ≤ 16) (fun k => 16 - k) 0 ?_ (Nat.zero_le _) ?_
      · simp -implicitDefEqProofs only [RJ.cells, hn, go_sem, simprocAttr]
        try rfl
      intro k hk
      have ek : (k : Int) + 1 = ((k + 1 : Nat) : Int) := by omega
      by_cases hk16 : k = 16
      · subst hk16
        rw [vAt_16]
        cases hv : hexV c with
        | none =>
          rw [hv] at hh
          have hh' : R = none := hh.symm
          subst hh'
          have z : hexI (none : Option Nat) = -1 := rfl
          rw [z]
          repeat' first
           | with_reducible refine Rl.go (by constructor <;> decide) ?_
           | ((with_reducible first | refine hK _ ?_ | refine hK.1 ?_ | refine hK.2 ?_); clear hK K)
           | ((with_reducible refine condS hK (fun hg => ?_) fun hg => ?_) <;> clear hK K <;> (try simp only [hgW] at hg) <;> try (exfalso; omega))
           | ((first | ((with_reducible first | refine Rk.go k68_VsKHex (by constructor) ?_ | refine Rd.go 1 k68_VsKHex a68_1_VsKHex o68_1_VsKHex mixed (by constructor) (by kernel_rfl) (by kernel_rfl) ?_ | refine Rd.go 12 k68_VsKHex a68_12_VsKHex o68_12_VsKHex mixed (by constructor) (by kernel_rfl) (by kernel_rfl) ?_); intro K hK) | with_reducible refine Rr.go [] (by constructor) ?_ | (with_reducible refine guardP_split (fun hg => ?_) fun hg => ?_) <;> (try simp only [hg]) <;> (try simp only [hgW] at hg)) <;> simp -implicitDefEqProofs only [RJ.cells, hn, go_sem, simprocAttr] <;> try (simp (disch := omega) only [wrW]; try simp -implicitDefEqProofs only [RJ.cells, hn, go_sem, simprocAttr]))
           | with_reducible refine And.intro (by first | omega | (simp only [hgW]; omega)) ?_
           | (exfalso; omega)
        | some v =>
          rw [hv] at hh
          simp only [Option.bind_some] at hh
          have hv16 := hexV_lt hv
          have z : hexI (some v) = (v : Int) := rfl
          rw [z]
          have ex : (16 : Int) * (x : Int) + (v : Int) = ((x * 16 + v : Nat) : Int) := by omega
          repeat' first
           | with_reducible refine Rl.go (by constructor <;> decide) ?_
           | ((with_reducible first | refine hK _ ?_ | refine hK.1 ?_ | refine hK.2 ?_); clear hK K)
           | ((with_reducible refine condS hK (fun hg => ?_) fun hg => ?_) <;> clear hK K <;> (try simp only [hgW] at hg) <;> try (exfalso; omega))
           | ((first | ((with_reducible first | refine Rk.go k68_VsKHex (by constructor) ?_ | refine Rd.go 1 k68_VsKHex a68_1_VsKHex o68_1_VsKHex mixed (by constructor) (by kernel_rfl) (by kernel_rfl) ?_ | refine Rd.go 12 k68_VsKHex a68_12_VsKHex o68_12_VsKHex mixed (by constructor) (by kernel_rfl) (by kernel_rfl) ?_); intro K hK) | with_reducible refine Rr.go [] (by constructor) ?_ | (with_reducible refine guardP_split (fun hg => ?_) fun hg => ?_) <;> (try simp only [hg]) <;> (try simp only [hgW] at hg)) <;> simp -implicitDefEqProofs only [RJ.cells, ex, hn, go_sem, simprocAttr] <;> try (simp (disch := omega) only [wrW]; try simp -implicitDefEqProofs only [RJ.cells, ex, hn, go_sem, simprocAttr]))
           | with_reducible refine And.intro (by first | omega | (simp only [hgW]; omega)) ?_
           | (exfalso; omega)
          refine ⟨(i + 1, x * 16 + v), ?_, ⟨by simp only; omega, by simp only; rw [p16]; omega, hh⟩, by simp only; omega⟩
          rw [e2]
          simp -implicitDefEqProofs only [RJ.cells, hn, go_sem, simprocAttr]
          try rfl
      · obtain ⟨y, hy⟩ : ∃ y, hexS.getD k default = y := ⟨_, rfl⟩
        obtain ⟨z, hz⟩ : ∃ z, hexG.getD k default = z := ⟨_, rfl⟩
        have hys : hexS[k]? = some y := by
          rw [← hy, List.getD_eq_getElem?_getD, List.getElem?_eq_getElem (show k < hexS.length by simp [hexS]; omega)]; rfl
        have hzs : hexG[k]? = some z := by
          rw [← hz, List.getD_eq_getElem?_getD, List.getElem?_eq_getElem (show k < hexG.length by simp [hexG]; omega)]; rfl
        have hvs : vAt c (k + 1) = if y = c ∨ z = c then (k : Int) else vAt c k := by
          show (if hexS.getD k default = c ∨ hexG.getD k default = c then (k : Int) else vAt c k) = _
          rw [hy, hz]
        have l1 : hexS.length = 16 := rfl
        have l2 : hexG.length = 16 := rfl
        by_cases h1 : y = c
        · subst h1
          rw [if_pos (.inl rfl)] at hvs
          repeat' first
           | with_reducible refine Rl.go (by constructor <;> decide) ?_
           | ((with_reducible first | refine hK _ ?_ | refine hK.1 ?_ | refine hK.2 ?_); clear hK K)
           | ((with_reducible refine condS hK (fun hg => ?_) fun hg => ?_) <;> clear hK K <;> (try simp only [hgW] at hg) <;> try (exfalso; omega))
           | ((first | ((with_reducible first | refine Rk.go k68_VsKHex (by constructor) ?_ | refine Rd.go 1 k68_VsKHex a68_1_VsKHex o68_1_VsKHex mixed (by constructor) (by kernel_rfl) (by kernel_rfl) ?_ | refine Rd.go 12 k68_VsKHex a68_12_VsKHex o68_12_VsKHex mixed (by constructor) (by kernel_rfl) (by kernel_rfl) ?_); intro K hK) | with_reducible refine Rr.go [] (by constructor) ?_ | (with_reducible refine guardP_split (fun hg => ?_) fun hg => ?_) <;> (try simp only [hg]) <;> (try simp only [hgW] at hg)) <;> simp -implicitDefEqProofs only [RJ.cells, u8, mi, hbc, hys, hzs, l1, l2, hn, go_sem, simprocAttr] <;> try (simp (disch := omega) only [wrW]; try simp -implicitDefEqProofs only [RJ.cells, u8, mi, hbc, hys, hzs, l1, l2, hn, go_sem, simprocAttr]))
           | with_reducible refine And.intro (by first | omega | (simp only [hgW]; omega)) ?_
           | (exfalso; omega)
          refine ⟨k + 1, ?_, by omega, by omega⟩
          rw [ek, hvs]
          simp -implicitDefEqProofs only [RJ.cells, hn, go_sem, simprocAttr]
          try rfl
        · have n1 : ¬ (y.toNat : Int) = (c.toNat : Int) := fun hh => h1 (UInt8.toNat_inj.1 (by omega))
          by_cases h2 : z = c
          · subst h2
            rw [if_pos (.inr rfl)] at hvs
            repeat' first
             | with_reducible refine Rl.go (by constructor <;> decide) ?_
             | ((with_reducible first | refine hK _ ?_ | refine hK.1 ?_ | refine hK.2 ?_); clear hK K)
             | ((with_reducible refine condS hK (fun hg => ?_) fun hg => ?_) <;> clear hK K <;> (try simp only [hgW] at hg) <;> try (exfalso; omega))
             | ((first | ((with_reducible first | refine Rk.go k68_VsKHex (by constructor) ?_ | refine Rd.go 1 k68_VsKHex a68_1_VsKHex o68_1_VsKHex mixed (by constructor) (by kernel_rfl) (by kernel_rfl) ?_ | refine Rd.go 12 k68_VsKHex a68_12_VsKHex o68_12_VsKHex mixed (by constructor) (by kernel_rfl) (by kernel_rfl) ?_); intro K hK) | with_reducible refine Rr.go [] (by constructor) ?_ | (with_reducible refine guardP_split (fun hg => ?_) fun hg => ?_) <;> (try simp only [hg]) <;> (try simp only [hgW] at hg)) <;> simp -implicitDefEqProofs only [RJ.cells, u8, mi, hbc, hys, hzs, l1, l2, n1, hn, go_sem, simprocAttr] <;> try (simp (disch := omega) only [wrW]; try simp -implicitDefEqProofs only [RJ.cells, u8, mi, hbc, hys, hzs, l1, l2, n1, hn, go_sem, simprocAttr]))
             | with_reducible refine And.intro (by first | omega | (simp only [hgW]; omega)) ?_
             | (exfalso; omega)
            refine ⟨k + 1, ?_, by omega, by omega⟩
            rw [ek, hvs]
            simp -implicitDefEqProofs only [RJ.cells, hn, go_sem, simprocAttr]
            try rfl
          · have n2 : ¬ (z.toNat : Int) = (c.toNat : Int) := fun hh => h2 (UInt8.toNat_inj.1 (by omega))
            rw [if_neg (by rintro (h | h); exact h1 h; exact h2 h)] at hvs
            repeat' first
             | with_reducible refine Rl.go (by constructor <;> decide) ?_
             | ((with_reducible first | refine hK _ ?_ | refine hK.1 ?_ | refine hK.2 ?_); clear hK K)
             | ((with_reducible refine condS hK (fun hg => ?_) fun hg => ?_) <;> clear hK K <;> (try simp only [hgW] at hg) <;> try (exfalso; omega))
             | ((first | ((with_reducible first | refine Rk.go k68_VsKHex (by constructor) ?_ | refine Rd.go 1 k68_VsKHex a68_1_VsKHex o68_1_VsKHex mixed (by constructor) (by kernel_rfl) (by kernel_rfl) ?_ | refine Rd.go 12 k68_VsKHex a68_12_VsKHex o68_12_VsKHex mixed (by constructor) (by kernel_rfl) (by kernel_rfl) ?_); intro K hK) | with_reducible refine Rr.go [] (by constructor) ?_ | (with_reducible refine guardP_split (fun hg => ?_) fun hg => ?_) <;> (try simp only [hg]) <;> (try simp only [hgW] at hg)) <;> simp -implicitDefEqProofs only [RJ.cells, u8, mi, hbc, hys, hzs, l1, l2, n1, n2, hn, go_sem, simprocAttr] <;> try (simp (disch := omega) only [wrW]; try simp -implicitDefEqProofs only [RJ.cells, u8, mi, hbc, hys, hzs, l1, l2, n1, n2, hn, go_sem, simprocAttr]))
             | with_reducible refine And.intro (by first | omega | (simp only [hgW]; omega)) ?_
             | (exfalso; omega)
            refine ⟨k + 1, ?_, by omega, by omega⟩
            rw [ek, hvs]
            simp -implicitDefEqProofs only [RJ.cells, hn, go_sem, simprocAttr]
            try rfl
  · rw [if_neg h4]
    refine CallsB.intro Tryd.func68 rfl (by show 1 ≤ 79; decide) ?_
    rintro X hX
    have hn : X.n = 79 := hX
    unfold Tryd.f68
    dsimp only
    rw [entryB11]
    repeat' first
     | with_reducible refine Rl.go (by constructor <;> decide) ?_
     | ((with_reducible first | refine hK _ ?_ | refine hK.1 ?_ | refine hK.2 ?_); clear hK K)
     | ((with_reducible refine condS hK (fun hg => ?_) fun hg => ?_) <;> clear hK K <;> (try simp only [hgW] at hg) <;> try (exfalso; omega))
     | ((first | ((with_reducible first | refine Rk.go k68_VsKHex (by constructor) ?_ | refine Rd.go 1 k68_VsKHex a68_1_VsKHex o68_1_VsKHex mixed (by constructor) (by kernel_rfl) (by kernel_rfl) ?_ | refine Rd.go 12 k68_VsKHex a68_12_VsKHex o68_12_VsKHex mixed (by constructor) (by kernel_rfl) (by kernel_rfl) ?_); intro K hK) | with_reducible refine Rr.go [] (by constructor) ?_ | (with_reducible refine guardP_split (fun hg => ?_) fun hg => ?_) <;> (try simp only [hg]) <;> (try simp only [hgW] at hg)) <;> simp -implicitDefEqProofs only [RJ.cells, hn, go_sem, simprocAttr] <;> try (simp (disch := omega) only [wrW]; try simp -implicitDefEqProofs only [RJ.cells, hn, go_sem, simprocAttr]))
     | with_reducible refine And.intro (by first | omega | (simp only [hgW]; omega)) ?_
     | (exfalso; omega)
end Go.Proofs.YtfemncfhiihckaaDoor
