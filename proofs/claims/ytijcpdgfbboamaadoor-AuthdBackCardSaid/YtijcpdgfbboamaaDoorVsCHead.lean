/- What the reader's head, its faults and its numbers come to. -/
import Derived.Test.YtijcpdgfbboamaaDoorVsCRefS
open Go Go.VS
namespace Go.Proofs.YtijcpdgfbboamaaDoor
set_option linter.unusedVariables false
set_option linter.unusedSimpArgs false
set_option maxRecDepth 20000
set_option maxHeartbeats 4000000
theorem RS.fail_0 (s : RS) (e : Nat) (h : s.err = 0) : s.fail e = { s with err := e } := if_pos h
theorem RS.fail_n (s : RS) (e : Nat) (h : s.err ≠ 0) : s.fail e = s := if_neg h
theorem zero_av : CI.zero.av = .agg [.int .u8 0, .int .u64 0, .sl none true 1 [], .sl none true 4 []] := rfl
theorem take_snoc {α : Type} [Inhabited α] {l : List α} {i : Nat} (h : i < l.length) : l.take i ++ [l.getD i default] = l.take (i + 1) := by
  rw [List.take_add_one, List.getD_eq_getElem?_getD, List.getElem?_eq_getElem h]
  rfl
def k49_VsCHead : List Nat := [0,1,4,9]
attribute [go_sem] k49_VsCHead
theorem f49_ok (s : RS) (nb : Bool) (e : Nat) : CallsB Tryd.prog 49 [.ptr 1000000 0, .int .i64 (e : Int)] [s.cells nb] CI.zero.av [(s.fail e).cells nb] := by
  obtain ⟨b, items, err⟩ := s
  refine CallsB.introF Tryd.func49 rfl (by show 2 ≤ 15; decide) ?_
  rintro X hX
  have hn : X.n = 15 := hX
  unfold Tryd.f49
  dsimp only
  rw [entryB21]
  repeat' first
   | with_reducible refine Rl.go (by constructor <;> decide) ?_
   | ((with_reducible first | refine hK _ ?_ | refine hK.1 ?_ | refine hK.2 ?_); clear hK K)
   | ((with_reducible refine condS hK (fun hg => ?_) fun hg => ?_) <;> clear hK K <;> (try simp only [hgW] at hg) <;> try (exfalso; omega))
   | ((first | ((with_reducible first | refine Rk.go k49_VsCHead (by constructor) ?_); intro K hK) | with_reducible refine Rr.go [] (by constructor) ?_ | (with_reducible refine guardP_split (fun hg => ?_) fun hg => ?_) <;> (try simp only [hg]) <;> (try simp only [hgW] at hg)) <;> simp -implicitDefEqProofs only [RS.cells, Int.cast_ofNat_Int, hn, go_sem, simprocAttr] <;> try simp (disch := omega) only [wrW])
   | with_reducible refine And.intro (by first | omega | (simp only [hgW]; omega)) ?_
   | (exfalso; omega)
  · rw [RS.fail_0 _ _ (by simp only; omega)]
    exact ⟨rfl, rfl⟩
  · rw [RS.fail_n _ _ (by simp only; omega)]
    exact ⟨rfl, rfl⟩
theorem m58 : min 5 IntKind.u8.bits = 5 := rfl
theorem m064 : min 0 IntKind.i64.bits = 0 := rfl
theorem m164 : min 1 IntKind.i64.bits = 1 := rfl
theorem m264 : min 2 IntKind.i64.bits = 2 := rfl
theorem m364 : min 3 IntKind.i64.bits = 3 := rfl
theorem m8u : min 8 IntKind.u64.bits = 8 := rfl
theorem m464 : min 4 IntKind.u64.bits = 4 := rfl
theorem m864 : min 8 IntKind.u64.bits = 8 := rfl
theorem m1664 : min 16 IntKind.u64.bits = 16 := rfl
theorem m3264 : min 32 IntKind.u64.bits = 32 := rfl
theorem fdivN (c k : Nat) : (c : Int).fdiv ((k : Nat) : Int) = ((c / k : Nat) : Int) := by
  rw [Int.fdiv_eq_ediv_of_nonneg _ (by omega)]
  omega
theorem fdiv32 (c : Nat) : (c : Int).fdiv 32 = ((c / 32 : Nat) : Int) := by
  rw [Int.fdiv_eq_ediv_of_nonneg _ (by decide)]
  omega
theorem bitop_or_u64 (x : Nat) (c : UInt8) (h : x < 72057594037927936) : bitop .or .u64 ((x : Int) * 256) (c.toNat : Int) = ((x * 256 + c.toNat : Nat) : Int) := by
  have hc := c.toNat_lt
  unfold bitop
  simp only
  have e : ((x : Int) * 256) = ((x * 256 : Nat) : Int) := by simp
  rw [e, ofInt_nat, ofInt_nat]
  simp only [BitVec.toNat_or, BitVec.toNat_ofNat]
  have hb : IntKind.u64.bits = 64 := rfl
  rw [hb, Nat.mod_eq_of_lt (by omega), Nat.mod_eq_of_lt (by omega)]
  have := or_shift x c.toNat 8 (by omega)
  rw [show (2 : Nat) ^ 8 = 256 from rfl] at this
  rw [this]
  exact Go.IntWalk.u64_in _ (by omega)
def k50_VsCHead : List Nat := [0,2,3,4,5,6,7,9,15,45,62,70,71,72,73,107]
def a50_4_VsCHead : List Nat := [0,1,3,7,15,31,63,0,128,384,896,1920,3968,8064,127,32767]
def o50_4_VsCHead : List Nat := [0,1,2,3,4,5,6,7,8,9,10,11,12,13,14,15]
attribute [go_sem] k50_VsCHead a50_4_VsCHead o50_4_VsCHead
theorem f50_0 (s : RS) (nb : Bool) (h : s.b = []) : CallsB Tryd.prog 50 [.ptr 1000000 0] [s.cells nb] (.tup [.int .u8 ((headS s).1 : Int), .int .u64 ((headS s).2.1 : Int)]) [(headS s).2.2.cells nb] := by
  have c49 := f49_ok s nb 20
  have e : headS s = (0, 0, s.fail 20) := by unfold headS; rw [h]; rfl
  rw [e]
  obtain ⟨b, items, err⟩ := s
  simp only at h
  subst h
  refine CallsB.introF Tryd.func50 rfl (by show 1 ≤ 112; decide) ?_
  rintro X hX
  have hn : X.n = 112 := hX
  unfold Tryd.f50
  dsimp only
  rw [entryB11]
  repeat' first
   | with_reducible refine Rl.go (by constructor <;> decide) ?_
   | ((with_reducible first | refine hK _ ?_ | refine hK.1 ?_ | refine hK.2 ?_); clear hK K)
   | ((with_reducible refine condS hK (fun hg => ?_) fun hg => ?_) <;> clear hK K <;> (try simp only [hgW] at hg) <;> try (exfalso; omega))
   | ((with_reducible refine callE_B3 c49 ?_); simp -implicitDefEqProofs only [eqOk_true, RS.cells, zero_av, Int.cast_ofNat_Int, hn, go_sem, simprocAttr]; (skip; try simp (disch := omega) only [wrW]); fail_if_success (with_reducible refine eqOk_mk ?_))
   | ((first | ((with_reducible first | refine Rk.go k50_VsCHead (by constructor) ?_ | refine Rd.go 4 k50_VsCHead a50_4_VsCHead o50_4_VsCHead mixed (by constructor) (by kernel_rfl) (by kernel_rfl) ?_); intro K hK) | with_reducible refine Rr.go [] (by constructor) ?_ | (with_reducible refine guardP_split (fun hg => ?_) fun hg => ?_) <;> (try simp only [hg]) <;> (try simp only [hgW] at hg)) <;> simp -implicitDefEqProofs only [RS.cells, zero_av, Int.cast_ofNat_Int, hn, go_sem, simprocAttr] <;> try simp (disch := omega) only [wrW])
   | with_reducible refine And.intro (by first | omega | (simp only [hgW]; omega)) ?_
   | (exfalso; omega)
theorem f50_1 (s : RS) (h : s.b ≠ []) (hl : s.b.length ≤ 100000) (hc : (s.b.getD 0 default).toNat % 32 < 24 ∨ (s.b.getD 0 default).toNat / 32 = 7) :
    CallsB Tryd.prog 50 [.ptr 1000000 0] [s.cells false] (.tup [.int .u8 ((headS s).1 : Int), .int .u64 ((headS s).2.1 : Int)]) [(headS s).2.2.cells false] := by
  have hl0 : s.b.length ≠ 0 := fun e => h (List.length_eq_zero_iff.1 e)
  have e : headS s = ((s.b.getD 0 default).toNat / 32, (s.b.getD 0 default).toNat % 32, { s with b := s.b.drop 1 }) := by unfold headS; rw [if_neg hl0]; simp only; rw [if_pos hc]
  rw [e]
  obtain ⟨b, items, err⟩ := s
  simp only at *
  have hcl := (b.getD 0 default).toNat_lt
  refine CallsB.introF Tryd.func50 rfl (by show 1 ≤ 112; decide) ?_
  rintro X hX
  have hn : X.n = 112 := hX
  unfold Tryd.f50
  dsimp only
  rw [entryB11]
  repeat' first
   | with_reducible refine Rl.go (by constructor <;> decide) ?_
   | ((with_reducible first | refine hK _ ?_ | refine hK.1 ?_ | refine hK.2 ?_); clear hK K)
   | ((with_reducible refine condS hK (fun hg => ?_) fun hg => ?_) <;> clear hK K <;> (try simp only [hgW] at hg) <;> try (exfalso; omega))
   | ((first | ((with_reducible first | refine Rk.go k50_VsCHead (by constructor) ?_ | refine Rd.go 4 k50_VsCHead a50_4_VsCHead o50_4_VsCHead mixed (by constructor) (by kernel_rfl) (by kernel_rfl) ?_); intro K hK) | with_reducible refine Rr.go [] (by constructor) ?_ | (with_reducible refine guardP_split (fun hg => ?_) fun hg => ?_) <;> (try simp only [hg]) <;> (try simp only [hgW] at hg)) <;> simp -implicitDefEqProofs only [RS.cells, u8, m58, fdiv32, Int.cast_ofNat_Int, hn, go_sem, simprocAttr] <;> try simp (disch := omega) only [wrW])
   | with_reducible refine And.intro (by first | omega | (simp only [hgW]; omega)) ?_
   | (exfalso; omega)
theorem f50_2 (s : RS) (h : s.b ≠ []) (hl : s.b.length ≤ 100000) (hc : ¬ ((s.b.getD 0 default).toNat % 32 < 24 ∨ (s.b.getD 0 default).toNat / 32 = 7)) (hlow : 27 < (s.b.getD 0 default).toNat % 32) :
    CallsB Tryd.prog 50 [.ptr 1000000 0] [s.cells false] (.tup [.int .u8 ((headS s).1 : Int), .int .u64 ((headS s).2.1 : Int)]) [(headS s).2.2.cells false] := by
  have hl0 : s.b.length ≠ 0 := fun e => h (List.length_eq_zero_iff.1 e)
  have e : headS s = (0, 0, ({ s with b := s.b.drop 1 } : RS).fail 20) := by unfold headS; rw [if_neg hl0]; simp only; rw [if_neg hc, if_pos (.inl hlow)]
  rw [e]
  obtain ⟨b, items, err⟩ := s
  simp only at *
  have c49 := f49_ok ⟨b.drop 1, items, err⟩ false 20
  have hcl := (b.getD 0 default).toNat_lt
  refine CallsB.introF Tryd.func50 rfl (by show 1 ≤ 112; decide) ?_
  rintro X hX
  have hn : X.n = 112 := hX
  unfold Tryd.f50
  dsimp only
  rw [entryB11]
  repeat' first
   | with_reducible refine Rl.go (by constructor <;> decide) ?_
   | ((with_reducible first | refine hK _ ?_ | refine hK.1 ?_ | refine hK.2 ?_); clear hK K)
   | ((with_reducible refine condS hK (fun hg => ?_) fun hg => ?_) <;> clear hK K <;> (try simp only [hgW] at hg) <;> try (exfalso; omega))
   | ((with_reducible refine callE_B3 c49 ?_); simp -implicitDefEqProofs only [eqOk_true, RS.cells, u8, m58, fdiv32, zero_av, Int.cast_ofNat_Int, hn, go_sem, simprocAttr]; (skip; try simp (disch := omega) only [wrW]); fail_if_success (with_reducible refine eqOk_mk ?_))
   | ((first | ((with_reducible first | refine Rk.go k50_VsCHead (by constructor) ?_ | refine Rd.go 4 k50_VsCHead a50_4_VsCHead o50_4_VsCHead mixed (by constructor) (by kernel_rfl) (by kernel_rfl) ?_); intro K hK) | with_reducible refine Rr.go [] (by constructor) ?_ | (with_reducible refine guardP_split (fun hg => ?_) fun hg => ?_) <;> (try simp only [hg]) <;> (try simp only [hgW] at hg)) <;> simp -implicitDefEqProofs only [RS.cells, u8, m58, fdiv32, zero_av, Int.cast_ofNat_Int, hn, go_sem, simprocAttr] <;> try simp (disch := omega) only [wrW])
   | with_reducible refine And.intro (by first | omega | (simp only [hgW]; omega)) ?_
   | (exfalso; omega)
theorem f50_3 (s : RS) (low z : Nat) (hz : (low = 24 ∧ z = 1) ∨ (low = 25 ∧ z = 2) ∨ (low = 26 ∧ z = 4) ∨ (low = 27 ∧ z = 8)) (h : s.b ≠ []) (hl : s.b.length ≤ 100000) (hc : ¬ ((s.b.getD 0 default).toNat % 32 < 24 ∨ (s.b.getD 0 default).toNat / 32 = 7)) (hlow : (s.b.getD 0 default).toNat % 32 = low) (hsh : s.b.length - 1 < z) :
    CallsB Tryd.prog 50 [.ptr 1000000 0] [s.cells false] (.tup [.int .u8 ((headS s).1 : Int), .int .u64 ((headS s).2.1 : Int)]) [(headS s).2.2.cells false] := by
  have hl0 : s.b.length ≠ 0 := fun e => h (List.length_eq_zero_iff.1 e)
  have hzz : 2 ^ (low - 24) = z := by rcases hz with ⟨rfl, rfl⟩ | ⟨rfl, rfl⟩ | ⟨rfl, rfl⟩ | ⟨rfl, rfl⟩ <;> rfl
  have e : headS s = (0, 0, ({ s with b := s.b.drop 1 } : RS).fail 20) := by unfold headS; rw [if_neg hl0]; simp only; rw [if_neg hc, if_pos (.inr (by rw [hlow, hzz, List.length_drop]; exact hsh))]
  rw [e]
  obtain ⟨b, items, err⟩ := s
  simp only at *
  have c49 := f49_ok ⟨b.drop 1, items, err⟩ false 20
  have hcl := (b.getD 0 default).toNat_lt
  rcases hz with ⟨rfl, rfl⟩ | ⟨rfl, rfl⟩ | ⟨rfl, rfl⟩ | ⟨rfl, rfl⟩
  all_goals
    refine CallsB.introF Tryd.func50 rfl (by show 1 ≤ 112; decide) ?_
    rintro X hX
    have hn : X.n = 112 := hX
    unfold Tryd.f50
    dsimp only
    rw [entryB11]
    repeat' first
     | with_reducible refine Rl.go (by constructor <;> decide) ?_
     | ((with_reducible first | refine hK _ ?_ | refine hK.1 ?_ | refine hK.2 ?_); clear hK K)
     | ((with_reducible refine condS hK (fun hg => ?_) fun hg => ?_) <;> clear hK K <;> (try simp only [hgW] at hg) <;> try (exfalso; omega))
     | ((with_reducible refine callE_B3 c49 ?_); simp -implicitDefEqProofs only [eqOk_true, RS.cells, u8, m58, fdiv32, zero_av, hlow, m064, m164, m264, m364, Int.cast_ofNat_Int, hn, go_sem, simprocAttr]; (skip; try simp (disch := omega) only [wrW]); fail_if_success (with_reducible refine eqOk_mk ?_))
     | ((first | ((with_reducible first | refine Rk.go k50_VsCHead (by constructor) ?_ | refine Rd.go 4 k50_VsCHead a50_4_VsCHead o50_4_VsCHead mixed (by constructor) (by kernel_rfl) (by kernel_rfl) ?_); intro K hK) | with_reducible refine Rr.go [] (by constructor) ?_ | (with_reducible refine guardP_split (fun hg => ?_) fun hg => ?_) <;> (try simp only [hg]) <;> (try simp only [hgW] at hg)) <;> simp -implicitDefEqProofs only [RS.cells, u8, m58, fdiv32, zero_av, hlow, m064, m164, m264, m364, Int.cast_ofNat_Int, hn, go_sem, simprocAttr] <;> try simp (disch := omega) only [wrW])
     | with_reducible refine And.intro (by first | omega | (simp only [hgW]; omega)) ?_
     | (exfalso; omega)
end Go.Proofs.YtijcpdgfbboamaaDoor
