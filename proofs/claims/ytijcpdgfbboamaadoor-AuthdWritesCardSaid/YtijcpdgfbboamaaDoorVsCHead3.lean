/- What the reader's numbers come to. -/
import Derived.Test.YtijcpdgfbboamaaDoorVsCHead
open Go Go.VS
namespace Go.Proofs.YtijcpdgfbboamaaDoor
set_option linter.unusedVariables false
set_option linter.unusedSimpArgs false
set_option maxRecDepth 20000
set_option maxHeartbeats 4000000
def k50_VsCHead2 : List Nat := [0,2,3,4,5,6,7,9,15,45,62,70,71,72,73,107]
def a50_4_VsCHead2 : List Nat := [0,1,3,7,15,31,63,0,128,384,896,1920,3968,8064,127,32767]
def o50_4_VsCHead2 : List Nat := [0,1,2,3,4,5,6,7,8,9,10,11,12,13,14,15]
attribute [go_sem] k50_VsCHead2 a50_4_VsCHead2 o50_4_VsCHead2
theorem f50_4_1 (s : RS) (h : s.b ≠ []) (hl : s.b.length ≤ 100000) (hc : ¬ ((s.b.getD 0 default).toNat % 32 < 24 ∨ (s.b.getD 0 default).toNat / 32 = 7)) (hlow : (s.b.getD 0 default).toNat % 32 = 24) (hsh : 1 ≤ s.b.length - 1) :
    CallsB Tryd.prog 50 [.ptr 1000000 0] [s.cells false] (.tup [.int .u8 ((headS s).1 : Int), .int .u64 ((headS s).2.1 : Int)]) [(headS s).2.2.cells false] := by
  have hl0 : s.b.length ≠ 0 := fun e => h (List.length_eq_zero_iff.1 e)
  obtain ⟨l, hL⟩ : ∃ l, (s.b.drop 1).take 1 = l := ⟨_, rfl⟩
  have hll : l.length = 1 := by rw [← hL, List.length_take, List.length_drop]; omega
  have hlt := be_lt l
  rw [hll] at hlt
  have e : headS s = ((s.b.getD 0 default).toNat / 32, be l, if be l < 24 then ({ s with b := (s.b.drop 1).drop 1 } : RS).fail 22 else { s with b := (s.b.drop 1).drop 1 }) := by
    have hif : (((2 : Nat) ^ (24 - 24) = 1 ∧ be l < 24) ∨ (1 < 2 ^ (24 - 24) ∧ be l / 2 ^ (4 * 2 ^ (24 - 24)) = 0)) ↔ be l < 24 := by simp
    unfold headS; rw [if_neg hl0]; simp only; rw [if_neg hc, if_neg (by rw [hlow, List.length_drop]; omega), hlow, show (s.b.drop 1).take (2 ^ (24 - 24)) = l from hL]
    by_cases hq : be l < 24
    · rw [if_pos (hif.2 hq), if_pos hq]
    · rw [if_neg (fun h => hq (hif.1 h)), if_neg hq]
  rw [e]
  clear e
  obtain ⟨b, items, err⟩ := s
  simp only at *
  have c49 := f49_ok ⟨(b.drop 1).drop 1, items, err⟩ false 22
  have hcl := (b.getD 0 default).toNat_lt
  refine CallsB.introF Tryd.func50 rfl (by show 1 ≤ 112; decide) ?_
  rintro X hX
  have hn : X.n = 112 := hX
  unfold Tryd.f50
  dsimp only
  rw [entryB11]
  repeat' first
   | with_reducible refine Rl.go (by constructor <;> decide) ?_
   | ((with_reducible first | refine hK _ ?_ | refine hK.1 ?_ | refine hK.2 ?_); clear hK K)
   | ((with_reducible refine condS hK (fun hg => ?_) fun hg => ?_) <;> clear hK K <;> (try simp only [hgW] at hg) <;> try (exfalso; omega))
   | ((with_reducible refine callE_B3 c49 ?_); simp -implicitDefEqProofs only [eqOk_true, RS.cells, u8, m58, fdiv32, zero_av, hlow, hL, hll, m064, m164, m264, m364, Int.cast_ofNat_Int, hn, go_sem, simprocAttr]; (skip; try simp (disch := omega) only [wrW]); fail_if_success (with_reducible refine eqOk_mk ?_))
   | ((first | ((with_reducible first | refine Rk.go k50_VsCHead2 (by constructor) ?_ | refine Rd.go 4 k50_VsCHead2 a50_4_VsCHead2 o50_4_VsCHead2 mixed (by constructor) (by kernel_rfl) (by kernel_rfl) ?_); intro K hK) | with_reducible refine Rr.go [] (by constructor) ?_ | (with_reducible refine guardP_split (fun hg => ?_) fun hg => ?_) <;> (try simp only [hg]) <;> (try simp only [hgW] at hg)) <;> simp -implicitDefEqProofs only [RS.cells, u8, m58, fdiv32, zero_av, hlow, hL, hll, m064, m164, m264, m364, Int.cast_ofNat_Int, hn, go_sem, simprocAttr] <;> try simp (disch := omega) only [wrW])
   | with_reducible refine And.intro (by first | omega | (simp only [hgW]; omega)) ?_
   | (exfalso; omega)
  refine AWP.loopX [0, 4, 5, 6, 7, 70, 71, 72] [] (fun i : Nat => St.mk (lk [(0, .ptr 1000000 0), (4, .int .u8 (((b.getD 0 default).toNat / 32 : Nat) : Int)), (5, .int .u8 24), (6, .int .i64 1), (7, .int .u64 ((be (l.take i) : Nat) : Int)), (70, .sl none false 1 (l.map u8)), (71, .int .i64 1), (72, .int .i64 (i : Int))]) (lkB [(1000000, [.sl none false 1 ((b.drop 1).map u8), .int .i64 items, .int .i64 err])]) (hasS []) (hasS []) (hasN []) (lkR []))
    (fun i => i ≤ 1) (fun i => 1 - i) 0 ?_ (by decide) ?_
  · simp -implicitDefEqProofs only [hL, hll, List.take_zero, Int.cast_ofNat_Int, hn, go_sem, simprocAttr]
    try rfl
  rintro i hi
  by_cases hiz : i = 1
  · subst hiz
    have ht : l.take 1 = l := List.take_of_length_le (by omega)
    rw [ht]
    repeat' first
     | with_reducible refine Rl.go (by constructor <;> decide) ?_
     | ((with_reducible first | refine hK _ ?_ | refine hK.1 ?_ | refine hK.2 ?_); clear hK K)
     | ((with_reducible refine condS hK (fun hg => ?_) fun hg => ?_) <;> clear hK K <;> (try simp only [hgW] at hg) <;> try (exfalso; omega))
     | ((with_reducible refine callE_B3 c49 ?_); simp -implicitDefEqProofs only [eqOk_true, RS.cells, u8, m58, fdiv32, zero_av, hlow, hL, hll, m464, m864, m1664, m3264, fdiv256, Int.cast_ofNat_Int, hn, go_sem, simprocAttr]; (skip; try simp (disch := omega) only [wrW]); fail_if_success (with_reducible refine eqOk_mk ?_))
     | ((first | ((with_reducible first | refine Rk.go k50_VsCHead2 (by constructor) ?_ | refine Rd.go 4 k50_VsCHead2 a50_4_VsCHead2 o50_4_VsCHead2 mixed (by constructor) (by kernel_rfl) (by kernel_rfl) ?_); intro K hK) | with_reducible refine Rr.go [] (by constructor) ?_ | (with_reducible refine guardP_split (fun hg => ?_) fun hg => ?_) <;> (try simp only [hg]) <;> (try simp only [hgW] at hg)) <;> simp -implicitDefEqProofs only [RS.cells, u8, m58, fdiv32, zero_av, hlow, hL, hll, m464, m864, m1664, m3264, fdiv256, Int.cast_ofNat_Int, hn, go_sem, simprocAttr] <;> try simp (disch := omega) only [wrW])
     | with_reducible refine And.intro (by first | omega | (simp only [hgW]; omega)) ?_
     | (exfalso; omega)
    all_goals split
    all_goals first | rfl | (exfalso; omega)
  · have hlt2 := be_lt (l.take i)
    have hti : (l.take i).length = i := by rw [List.length_take]; omega
    rw [hti] at hlt2
    have hb256 : be (l.take i) < 72057594037927936 := Nat.lt_of_lt_of_le hlt2 (Nat.le_trans (Nat.pow_le_pow_right (by decide) (show i ≤ 7 by omega)) (by decide))
    have hor := bitop_or_u64 (be (l.take i)) (l.getD i default) hb256
    have hci := (l.getD i default).toNat_lt
    repeat' first
     | with_reducible refine Rl.go (by constructor <;> decide) ?_
     | ((with_reducible first | refine hK _ ?_ | refine hK.1 ?_ | refine hK.2 ?_); clear hK K)
     | ((with_reducible refine condS hK (fun hg => ?_) fun hg => ?_) <;> clear hK K <;> (try simp only [hgW] at hg) <;> try (exfalso; omega))
     | ((first | ((with_reducible first | refine Rk.go k50_VsCHead2 (by constructor) ?_ | refine Rd.go 4 k50_VsCHead2 a50_4_VsCHead2 o50_4_VsCHead2 mixed (by constructor) (by kernel_rfl) (by kernel_rfl) ?_); intro K hK) | with_reducible refine Rr.go [] (by constructor) ?_ | (with_reducible refine guardP_split (fun hg => ?_) fun hg => ?_) <;> (try simp only [hg]) <;> (try simp only [hgW] at hg)) <;> simp -implicitDefEqProofs only [RS.cells, u8, hor, m8u, Int.reducePow, Int.cast_ofNat_Int, hn, go_sem, simprocAttr] <;> try simp (disch := omega) only [wrW])
     | with_reducible refine And.intro (by first | omega | (simp only [hgW]; omega)) ?_
     | (exfalso; omega)
    refine ⟨i + 1, ?_, by omega, by omega⟩
    have e1 : be (l.take i) * 256 + (l.getD i default).toNat = be (l.take (i + 1)) := by rw [← be_snoc, take_snoc (by omega)]
    have e2 : (i : Int) + 1 = ((i + 1 : Nat) : Int) := by omega
    rw [e1, e2]
    simp -implicitDefEqProofs only [Int.cast_ofNat_Int, hn, go_sem, simprocAttr]
    try rfl
theorem f50_4_2 (s : RS) (h : s.b ≠ []) (hl : s.b.length ≤ 100000) (hc : ¬ ((s.b.getD 0 default).toNat % 32 < 24 ∨ (s.b.getD 0 default).toNat / 32 = 7)) (hlow : (s.b.getD 0 default).toNat % 32 = 25) (hsh : 2 ≤ s.b.length - 1) :
    CallsB Tryd.prog 50 [.ptr 1000000 0] [s.cells false] (.tup [.int .u8 ((headS s).1 : Int), .int .u64 ((headS s).2.1 : Int)]) [(headS s).2.2.cells false] := by
  have hl0 : s.b.length ≠ 0 := fun e => h (List.length_eq_zero_iff.1 e)
  obtain ⟨l, hL⟩ : ∃ l, (s.b.drop 1).take 2 = l := ⟨_, rfl⟩
  have hll : l.length = 2 := by rw [← hL, List.length_take, List.length_drop]; omega
  have hlt := be_lt l
  rw [hll] at hlt
  have e : headS s = ((s.b.getD 0 default).toNat / 32, be l, if be l / 256 = 0 then ({ s with b := (s.b.drop 1).drop 2 } : RS).fail 22 else { s with b := (s.b.drop 1).drop 2 }) := by
    have hif : (((2 : Nat) ^ (25 - 24) = 1 ∧ be l < 24) ∨ (1 < 2 ^ (25 - 24) ∧ be l / 2 ^ (4 * 2 ^ (25 - 24)) = 0)) ↔ be l / 256 = 0 := by simp
    unfold headS; rw [if_neg hl0]; simp only; rw [if_neg hc, if_neg (by rw [hlow, List.length_drop]; omega), hlow, show (s.b.drop 1).take (2 ^ (25 - 24)) = l from hL]
    by_cases hq : be l / 256 = 0
    · rw [if_pos (hif.2 hq), if_pos hq]
    · rw [if_neg (fun h => hq (hif.1 h)), if_neg hq]
  rw [e]
  clear e
  obtain ⟨b, items, err⟩ := s
  simp only at *
  have c49 := f49_ok ⟨(b.drop 1).drop 2, items, err⟩ false 22
  have hcl := (b.getD 0 default).toNat_lt
  refine CallsB.introF Tryd.func50 rfl (by show 1 ≤ 112; decide) ?_
  rintro X hX
  have hn : X.n = 112 := hX
  unfold Tryd.f50
  dsimp only
  rw [entryB11]
  repeat' first
   | with_reducible refine Rl.go (by constructor <;> decide) ?_
   | ((with_reducible first | refine hK _ ?_ | refine hK.1 ?_ | refine hK.2 ?_); clear hK K)
   | ((with_reducible refine condS hK (fun hg => ?_) fun hg => ?_) <;> clear hK K <;> (try simp only [hgW] at hg) <;> try (exfalso; omega))
   | ((with_reducible refine callE_B3 c49 ?_); simp -implicitDefEqProofs only [eqOk_true, RS.cells, u8, m58, fdiv32, zero_av, hlow, hL, hll, m064, m164, m264, m364, Int.cast_ofNat_Int, hn, go_sem, simprocAttr]; (skip; try simp (disch := omega) only [wrW]); fail_if_success (with_reducible refine eqOk_mk ?_))
   | ((first | ((with_reducible first | refine Rk.go k50_VsCHead2 (by constructor) ?_ | refine Rd.go 4 k50_VsCHead2 a50_4_VsCHead2 o50_4_VsCHead2 mixed (by constructor) (by kernel_rfl) (by kernel_rfl) ?_); intro K hK) | with_reducible refine Rr.go [] (by constructor) ?_ | (with_reducible refine guardP_split (fun hg => ?_) fun hg => ?_) <;> (try simp only [hg]) <;> (try simp only [hgW] at hg)) <;> simp -implicitDefEqProofs only [RS.cells, u8, m58, fdiv32, zero_av, hlow, hL, hll, m064, m164, m264, m364, Int.cast_ofNat_Int, hn, go_sem, simprocAttr] <;> try simp (disch := omega) only [wrW])
   | with_reducible refine And.intro (by first | omega | (simp only [hgW]; omega)) ?_
   | (exfalso; omega)
  refine AWP.loopX [0, 4, 5, 6, 7, 70, 71, 72] [] (fun i : Nat => St.mk (lk [(0, .ptr 1000000 0), (4, .int .u8 (((b.getD 0 default).toNat / 32 : Nat) : Int)), (5, .int .u8 25), (6, .int .i64 2), (7, .int .u64 ((be (l.take i) : Nat) : Int)), (70, .sl none false 1 (l.map u8)), (71, .int .i64 2), (72, .int .i64 (i : Int))]) (lkB [(1000000, [.sl none false 1 ((b.drop 1).map u8), .int .i64 items, .int .i64 err])]) (hasS []) (hasS []) (hasN []) (lkR []))
    (fun i => i ≤ 2) (fun i => 2 - i) 0 ?_ (by decide) ?_
  · simp -implicitDefEqProofs only [hL, hll, List.take_zero, Int.cast_ofNat_Int, hn, go_sem, simprocAttr]
    try rfl
  rintro i hi
  by_cases hiz : i = 2
  · subst hiz
    have ht : l.take 2 = l := List.take_of_length_le (by omega)
    rw [ht]
    repeat' first
     | with_reducible refine Rl.go (by constructor <;> decide) ?_
     | ((with_reducible first | refine hK _ ?_ | refine hK.1 ?_ | refine hK.2 ?_); clear hK K)
     | ((with_reducible refine condS hK (fun hg => ?_) fun hg => ?_) <;> clear hK K <;> (try simp only [hgW] at hg) <;> try (exfalso; omega))
     | ((with_reducible refine callE_B3 c49 ?_); simp -implicitDefEqProofs only [eqOk_true, RS.cells, u8, m58, fdiv32, zero_av, hlow, hL, hll, m464, m864, m1664, m3264, fdiv256, Int.cast_ofNat_Int, hn, go_sem, simprocAttr]; (skip; try simp (disch := omega) only [wrW]); fail_if_success (with_reducible refine eqOk_mk ?_))
     | ((first | ((with_reducible first | refine Rk.go k50_VsCHead2 (by constructor) ?_ | refine Rd.go 4 k50_VsCHead2 a50_4_VsCHead2 o50_4_VsCHead2 mixed (by constructor) (by kernel_rfl) (by kernel_rfl) ?_); intro K hK) | with_reducible refine Rr.go [] (by constructor) ?_ | (with_reducible refine guardP_split (fun hg => ?_) fun hg => ?_) <;> (try simp only [hg]) <;> (try simp only [hgW] at hg)) <;> simp -implicitDefEqProofs only [RS.cells, u8, m58, fdiv32, zero_av, hlow, hL, hll, m464, m864, m1664, m3264, fdiv256, Int.cast_ofNat_Int, hn, go_sem, simprocAttr] <;> try simp (disch := omega) only [wrW])
     | with_reducible refine And.intro (by first | omega | (simp only [hgW]; omega)) ?_
     | (exfalso; omega)
    all_goals split
    all_goals first | rfl | (exfalso; omega)
  · have hlt2 := be_lt (l.take i)
    have hti : (l.take i).length = i := by rw [List.length_take]; omega
    rw [hti] at hlt2
    have hb256 : be (l.take i) < 72057594037927936 := Nat.lt_of_lt_of_le hlt2 (Nat.le_trans (Nat.pow_le_pow_right (by decide) (show i ≤ 7 by omega)) (by decide))
    have hor := bitop_or_u64 (be (l.take i)) (l.getD i default) hb256
    have hci := (l.getD i default).toNat_lt
    repeat' first
     | with_reducible refine Rl.go (by constructor <;> decide) ?_
     | ((with_reducible first | refine hK _ ?_ | refine hK.1 ?_ | refine hK.2 ?_); clear hK K)
     | ((with_reducible refine condS hK (fun hg => ?_) fun hg => ?_) <;> clear hK K <;> (try simp only [hgW] at hg) <;> try (exfalso; omega))
     | ((first | ((with_reducible first | refine Rk.go k50_VsCHead2 (by constructor) ?_ | refine Rd.go 4 k50_VsCHead2 a50_4_VsCHead2 o50_4_VsCHead2 mixed (by constructor) (by kernel_rfl) (by kernel_rfl) ?_); intro K hK) | with_reducible refine Rr.go [] (by constructor) ?_ | (with_reducible refine guardP_split (fun hg => ?_) fun hg => ?_) <;> (try simp only [hg]) <;> (try simp only [hgW] at hg)) <;> simp -implicitDefEqProofs only [RS.cells, u8, hor, m8u, Int.reducePow, Int.cast_ofNat_Int, hn, go_sem, simprocAttr] <;> try simp (disch := omega) only [wrW])
     | with_reducible refine And.intro (by first | omega | (simp only [hgW]; omega)) ?_
     | (exfalso; omega)
    refine ⟨i + 1, ?_, by omega, by omega⟩
    have e1 : be (l.take i) * 256 + (l.getD i default).toNat = be (l.take (i + 1)) := by rw [← be_snoc, take_snoc (by omega)]
    have e2 : (i : Int) + 1 = ((i + 1 : Nat) : Int) := by omega
    rw [e1, e2]
    simp -implicitDefEqProofs only [Int.cast_ofNat_Int, hn, go_sem, simprocAttr]
    try rfl
end Go.Proofs.YtijcpdgfbboamaaDoor
open Go Go.VS
namespace Go.Proofs.YtijcpdgfbboamaaDoor
set_option linter.unusedVariables false
set_option linter.unusedSimpArgs false
set_option maxRecDepth 20000
set_option maxHeartbeats 4000000
theorem fdiv65536 (x : Int) : x.fdiv 65536 = x / 65536 := Int.fdiv_eq_ediv_of_nonneg x (by decide)
theorem fdiv4g (x : Int) : x.fdiv 4294967296 = x / 4294967296 := Int.fdiv_eq_ediv_of_nonneg x (by decide)
def k50_VsCHead3 : List Nat := [0,2,3,4,5,6,7,9,15,45,62,70,71,72,73,107]
def a50_4_VsCHead3 : List Nat := [0,1,3,7,15,31,63,0,128,384,896,1920,3968,8064,127,32767]
def o50_4_VsCHead3 : List Nat := [0,1,2,3,4,5,6,7,8,9,10,11,12,13,14,15]
attribute [go_sem] k50_VsCHead3 a50_4_VsCHead3 o50_4_VsCHead3
theorem f50_4_4 (s : RS) (h : s.b ≠ []) (hl : s.b.length ≤ 100000) (hc : ¬ ((s.b.getD 0 default).toNat % 32 < 24 ∨ (s.b.getD 0 default).toNat / 32 = 7)) (hlow : (s.b.getD 0 default).toNat % 32 = 26) (hsh : 4 ≤ s.b.length - 1) :
    CallsB Tryd.prog 50 [.ptr 1000000 0] [s.cells false] (.tup [.int .u8 ((headS s).1 : Int), .int .u64 ((headS s).2.1 : Int)]) [(headS s).2.2.cells false] := by
  have hl0 : s.b.length ≠ 0 := fun e => h (List.length_eq_zero_iff.1 e)
  obtain ⟨l, hL⟩ : ∃ l, (s.b.drop 1).take 4 = l := ⟨_, rfl⟩
  have hll : l.length = 4 := by rw [← hL, List.length_take, List.length_drop]; omega
  have hlt := be_lt l
  rw [hll] at hlt
  have e : headS s = ((s.b.getD 0 default).toNat / 32, be l, if be l / 65536 = 0 then ({ s with b := (s.b.drop 1).drop 4 } : RS).fail 22 else { s with b := (s.b.drop 1).drop 4 }) := by
    have hif : (((2 : Nat) ^ (26 - 24) = 1 ∧ be l < 24) ∨ (1 < 2 ^ (26 - 24) ∧ be l / 2 ^ (4 * 2 ^ (26 - 24)) = 0)) ↔ be l / 65536 = 0 := by simp
    unfold headS; rw [if_neg hl0]; simp only; rw [if_neg hc, if_neg (by rw [hlow, List.length_drop]; omega), hlow, show (s.b.drop 1).take (2 ^ (26 - 24)) = l from hL]
    by_cases hq : be l / 65536 = 0
    · rw [if_pos (hif.2 hq), if_pos hq]
    · rw [if_neg (fun h => hq (hif.1 h)), if_neg hq]
  rw [e]
  clear e
  obtain ⟨b, items, err⟩ := s
  simp only at *
  have c49 := f49_ok ⟨(b.drop 1).drop 4, items, err⟩ false 22
  have hcl := (b.getD 0 default).toNat_lt
  refine CallsB.introF Tryd.func50 rfl (by show 1 ≤ 112; decide) ?_
  rintro X hX
  have hn : X.n = 112 := hX
  unfold Tryd.f50
  dsimp only
  rw [entryB11]
  repeat' first
   | with_reducible refine Rl.go (by constructor <;> decide) ?_
   | ((with_reducible first | refine hK _ ?_ | refine hK.1 ?_ | refine hK.2 ?_); clear hK K)
   | ((with_reducible refine condS hK (fun hg => ?_) fun hg => ?_) <;> clear hK K <;> (try simp only [hgW] at hg) <;> try (exfalso; omega))
   | ((with_reducible refine callE_B3 c49 ?_); simp -implicitDefEqProofs only [eqOk_true, RS.cells, u8, m58, fdiv32, zero_av, hlow, hL, hll, m064, m164, m264, m364, Int.cast_ofNat_Int, hn, go_sem, simprocAttr]; (skip; try simp (disch := omega) only [wrW]); fail_if_success (with_reducible refine eqOk_mk ?_))
   | ((first | ((with_reducible first | refine Rk.go k50_VsCHead3 (by constructor) ?_ | refine Rd.go 4 k50_VsCHead3 a50_4_VsCHead3 o50_4_VsCHead3 mixed (by constructor) (by kernel_rfl) (by kernel_rfl) ?_); intro K hK) | with_reducible refine Rr.go [] (by constructor) ?_ | (with_reducible refine guardP_split (fun hg => ?_) fun hg => ?_) <;> (try simp only [hg]) <;> (try simp only [hgW] at hg)) <;> simp -implicitDefEqProofs only [RS.cells, u8, m58, fdiv32, zero_av, hlow, hL, hll, m064, m164, m264, m364, Int.cast_ofNat_Int, hn, go_sem, simprocAttr] <;> try simp (disch := omega) only [wrW])
   | with_reducible refine And.intro (by first | omega | (simp only [hgW]; omega)) ?_
   | (exfalso; omega)
  refine AWP.loopX [0, 4, 5, 6, 7, 70, 71, 72] [] (fun i : Nat => St.mk (lk [(0, .ptr 1000000 0), (4, .int .u8 (((b.getD 0 default).toNat / 32 : Nat) : Int)), (5, .int .u8 26), (6, .int .i64 4), (7, .int .u64 ((be (l.take i) : Nat) : Int)), (70, .sl none false 1 (l.map u8)), (71, .int .i64 4), (72, .int .i64 (i : Int))]) (lkB [(1000000, [.sl none false 1 ((b.drop 1).map u8), .int .i64 items, .int .i64 err])]) (hasS []) (hasS []) (hasN []) (lkR []))
    (fun i => i ≤ 4) (fun i => 4 - i) 0 ?_ (by decide) ?_
  · simp -implicitDefEqProofs only [hL, hll, List.take_zero, Int.cast_ofNat_Int, hn, go_sem, simprocAttr]
    try rfl
  rintro i hi
  by_cases hiz : i = 4
  · subst hiz
    have ht : l.take 4 = l := List.take_of_length_le (by omega)
    rw [ht]
    repeat' first
     | with_reducible refine Rl.go (by constructor <;> decide) ?_
     | ((with_reducible first | refine hK _ ?_ | refine hK.1 ?_ | refine hK.2 ?_); clear hK K)
     | ((with_reducible refine condS hK (fun hg => ?_) fun hg => ?_) <;> clear hK K <;> (try simp only [hgW] at hg) <;> try (exfalso; omega))
     | ((with_reducible refine callE_B3 c49 ?_); simp -implicitDefEqProofs only [eqOk_true, RS.cells, u8, m58, fdiv32, zero_av, hlow, hL, hll, m464, m864, m1664, m3264, fdiv65536, fdiv4g, Int.cast_ofNat_Int, hn, go_sem, simprocAttr]; (skip; try simp (disch := omega) only [wrW]); fail_if_success (with_reducible refine eqOk_mk ?_))
     | ((first | ((with_reducible first | refine Rk.go k50_VsCHead3 (by constructor) ?_ | refine Rd.go 4 k50_VsCHead3 a50_4_VsCHead3 o50_4_VsCHead3 mixed (by constructor) (by kernel_rfl) (by kernel_rfl) ?_); intro K hK) | with_reducible refine Rr.go [] (by constructor) ?_ | (with_reducible refine guardP_split (fun hg => ?_) fun hg => ?_) <;> (try simp only [hg]) <;> (try simp only [hgW] at hg)) <;> simp -implicitDefEqProofs only [RS.cells, u8, m58, fdiv32, zero_av, hlow, hL, hll, m464, m864, m1664, m3264, fdiv65536, fdiv4g, Int.cast_ofNat_Int, hn, go_sem, simprocAttr] <;> try simp (disch := omega) only [wrW])
     | with_reducible refine And.intro (by first | omega | (simp only [hgW]; omega)) ?_
     | (exfalso; omega)
    all_goals split
    all_goals first | rfl | (exfalso; omega)
  · have hlt2 := be_lt (l.take i)
    have hti : (l.take i).length = i := by rw [List.length_take]; omega
    rw [hti] at hlt2
    have hb256 : be (l.take i) < 72057594037927936 := Nat.lt_of_lt_of_le hlt2 (Nat.le_trans (Nat.pow_le_pow_right (by decide) (show i ≤ 7 by omega)) (by decide))
    have hor := bitop_or_u64 (be (l.take i)) (l.getD i default) hb256
    have hci := (l.getD i default).toNat_lt
    repeat' first
     | with_reducible refine Rl.go (by constructor <;> decide) ?_
     | ((with_reducible first | refine hK _ ?_ | refine hK.1 ?_ | refine hK.2 ?_); clear hK K)
     | ((with_reducible refine condS hK (fun hg => ?_) fun hg => ?_) <;> clear hK K <;> (try simp only [hgW] at hg) <;> try (exfalso; omega))
     | ((first | ((with_reducible first | refine Rk.go k50_VsCHead3 (by constructor) ?_ | refine Rd.go 4 k50_VsCHead3 a50_4_VsCHead3 o50_4_VsCHead3 mixed (by constructor) (by kernel_rfl) (by kernel_rfl) ?_); intro K hK) | with_reducible refine Rr.go [] (by constructor) ?_ | (with_reducible refine guardP_split (fun hg => ?_) fun hg => ?_) <;> (try simp only [hg]) <;> (try simp only [hgW] at hg)) <;> simp -implicitDefEqProofs only [RS.cells, u8, hor, m8u, Int.reducePow, Int.cast_ofNat_Int, hn, go_sem, simprocAttr] <;> try simp (disch := omega) only [wrW])
     | with_reducible refine And.intro (by first | omega | (simp only [hgW]; omega)) ?_
     | (exfalso; omega)
    refine ⟨i + 1, ?_, by omega, by omega⟩
    have e1 : be (l.take i) * 256 + (l.getD i default).toNat = be (l.take (i + 1)) := by rw [← be_snoc, take_snoc (by omega)]
    have e2 : (i : Int) + 1 = ((i + 1 : Nat) : Int) := by omega
    rw [e1, e2]
    simp -implicitDefEqProofs only [Int.cast_ofNat_Int, hn, go_sem, simprocAttr]
    try rfl
theorem f50_4_8 (s : RS) (h : s.b ≠ []) (hl : s.b.length ≤ 100000) (hc : ¬ ((s.b.getD 0 default).toNat % 32 < 24 ∨ (s.b.getD 0 default).toNat / 32 = 7)) (hlow : (s.b.getD 0 default).toNat % 32 = 27) (hsh : 8 ≤ s.b.length - 1) :
    CallsB Tryd.prog 50 [.ptr 1000000 0] [s.cells false] (.tup [.int .u8 ((headS s).1 : Int), .int .u64 ((headS s).2.1 : Int)]) [(headS s).2.2.cells false] := by
  have hl0 : s.b.length ≠ 0 := fun e => h (List.length_eq_zero_iff.1 e)
  obtain ⟨l, hL⟩ : ∃ l, (s.b.drop 1).take 8 = l := ⟨_, rfl⟩
  have hll : l.length = 8 := by rw [← hL, List.length_take, List.length_drop]; omega
  have hlt := be_lt l
  rw [hll] at hlt
  have e : headS s = ((s.b.getD 0 default).toNat / 32, be l, if be l / 4294967296 = 0 then ({ s with b := (s.b.drop 1).drop 8 } : RS).fail 22 else { s with b := (s.b.drop 1).drop 8 }) := by
    have hif : (((2 : Nat) ^ (27 - 24) = 1 ∧ be l < 24) ∨ (1 < 2 ^ (27 - 24) ∧ be l / 2 ^ (4 * 2 ^ (27 - 24)) = 0)) ↔ be l / 4294967296 = 0 := by simp
    unfold headS; rw [if_neg hl0]; simp only; rw [if_neg hc, if_neg (by rw [hlow, List.length_drop]; omega), hlow, show (s.b.drop 1).take (2 ^ (27 - 24)) = l from hL]
    by_cases hq : be l / 4294967296 = 0
    · rw [if_pos (hif.2 hq), if_pos hq]
    · rw [if_neg (fun h => hq (hif.1 h)), if_neg hq]
  rw [e]
  clear e
  obtain ⟨b, items, err⟩ := s
  simp only at *
  have c49 := f49_ok ⟨(b.drop 1).drop 8, items, err⟩ false 22
  have hcl := (b.getD 0 default).toNat_lt
  refine CallsB.introF Tryd.func50 rfl (by show 1 ≤ 112; decide) ?_
  rintro X hX
  have hn : X.n = 112 := hX
  unfold Tryd.f50
  dsimp only
  rw [entryB11]
  repeat' first
   | with_reducible refine Rl.go (by constructor <;> decide) ?_
   | ((with_reducible first | refine hK _ ?_ | refine hK.1 ?_ | refine hK.2 ?_); clear hK K)
   | ((with_reducible refine condS hK (fun hg => ?_) fun hg => ?_) <;> clear hK K <;> (try simp only [hgW] at hg) <;> try (exfalso; omega))
   | ((with_reducible refine callE_B3 c49 ?_); simp -implicitDefEqProofs only [eqOk_true, RS.cells, u8, m58, fdiv32, zero_av, hlow, hL, hll, m064, m164, m264, m364, Int.cast_ofNat_Int, hn, go_sem, simprocAttr]; (skip; try simp (disch := omega) only [wrW]); fail_if_success (with_reducible refine eqOk_mk ?_))
   | ((first | ((with_reducible first | refine Rk.go k50_VsCHead3 (by constructor) ?_ | refine Rd.go 4 k50_VsCHead3 a50_4_VsCHead3 o50_4_VsCHead3 mixed (by constructor) (by kernel_rfl) (by kernel_rfl) ?_); intro K hK) | with_reducible refine Rr.go [] (by constructor) ?_ | (with_reducible refine guardP_split (fun hg => ?_) fun hg => ?_) <;> (try simp only [hg]) <;> (try simp only [hgW] at hg)) <;> simp -implicitDefEqProofs only [RS.cells, u8, m58, fdiv32, zero_av, hlow, hL, hll, m064, m164, m264, m364, Int.cast_ofNat_Int, hn, go_sem, simprocAttr] <;> try simp (disch := omega) only [wrW])
   | with_reducible refine And.intro (by first | omega | (simp only [hgW]; omega)) ?_
   | (exfalso; omega)
  refine AWP.loopX [0, 4, 5, 6, 7, 70, 71, 72] [] (fun i : Nat => St.mk (lk [(0, .ptr 1000000 0), (4, .int .u8 (((b.getD 0 default).toNat / 32 : Nat) : Int)), (5, .int .u8 27), (6, .int .i64 8), (7, .int .u64 ((be (l.take i) : Nat) : Int)), (70, .sl none false 1 (l.map u8)), (71, .int .i64 8), (72, .int .i64 (i : Int))]) (lkB [(1000000, [.sl none false 1 ((b.drop 1).map u8), .int .i64 items, .int .i64 err])]) (hasS []) (hasS []) (hasN []) (lkR []))
    (fun i => i ≤ 8) (fun i => 8 - i) 0 ?_ (by decide) ?_
  · simp -implicitDefEqProofs only [hL, hll, List.take_zero, Int.cast_ofNat_Int, hn, go_sem, simprocAttr]
    try rfl
  rintro i hi
  by_cases hiz : i = 8
  · subst hiz
    have ht : l.take 8 = l := List.take_of_length_le (by omega)
    rw [ht]
    repeat' first
     | with_reducible refine Rl.go (by constructor <;> decide) ?_
     | ((with_reducible first | refine hK _ ?_ | refine hK.1 ?_ | refine hK.2 ?_); clear hK K)
     | ((with_reducible refine condS hK (fun hg => ?_) fun hg => ?_) <;> clear hK K <;> (try simp only [hgW] at hg) <;> try (exfalso; omega))
     | ((with_reducible refine callE_B3 c49 ?_); simp -implicitDefEqProofs only [eqOk_true, RS.cells, u8, m58, fdiv32, zero_av, hlow, hL, hll, m464, m864, m1664, m3264, fdiv65536, fdiv4g, Int.cast_ofNat_Int, hn, go_sem, simprocAttr]; (skip; try simp (disch := omega) only [wrW]); fail_if_success (with_reducible refine eqOk_mk ?_))
     | ((first | ((with_reducible first | refine Rk.go k50_VsCHead3 (by constructor) ?_ | refine Rd.go 4 k50_VsCHead3 a50_4_VsCHead3 o50_4_VsCHead3 mixed (by constructor) (by kernel_rfl) (by kernel_rfl) ?_); intro K hK) | with_reducible refine Rr.go [] (by constructor) ?_ | (with_reducible refine guardP_split (fun hg => ?_) fun hg => ?_) <;> (try simp only [hg]) <;> (try simp only [hgW] at hg)) <;> simp -implicitDefEqProofs only [RS.cells, u8, m58, fdiv32, zero_av, hlow, hL, hll, m464, m864, m1664, m3264, fdiv65536, fdiv4g, Int.cast_ofNat_Int, hn, go_sem, simprocAttr] <;> try simp (disch := omega) only [wrW])
     | with_reducible refine And.intro (by first | omega | (simp only [hgW]; omega)) ?_
     | (exfalso; omega)
    all_goals split
    all_goals first | rfl | (exfalso; omega)
  · have hlt2 := be_lt (l.take i)
    have hti : (l.take i).length = i := by rw [List.length_take]; omega
    rw [hti] at hlt2
    have hb256 : be (l.take i) < 72057594037927936 := Nat.lt_of_lt_of_le hlt2 (Nat.le_trans (Nat.pow_le_pow_right (by decide) (show i ≤ 7 by omega)) (by decide))
    have hor := bitop_or_u64 (be (l.take i)) (l.getD i default) hb256
    have hci := (l.getD i default).toNat_lt
    repeat' first
     | with_reducible refine Rl.go (by constructor <;> decide) ?_
     | ((with_reducible first | refine hK _ ?_ | refine hK.1 ?_ | refine hK.2 ?_); clear hK K)
     | ((with_reducible refine condS hK (fun hg => ?_) fun hg => ?_) <;> clear hK K <;> (try simp only [hgW] at hg) <;> try (exfalso; omega))
     | ((first | ((with_reducible first | refine Rk.go k50_VsCHead3 (by constructor) ?_ | refine Rd.go 4 k50_VsCHead3 a50_4_VsCHead3 o50_4_VsCHead3 mixed (by constructor) (by kernel_rfl) (by kernel_rfl) ?_); intro K hK) | with_reducible refine Rr.go [] (by constructor) ?_ | (with_reducible refine guardP_split (fun hg => ?_) fun hg => ?_) <;> (try simp only [hg]) <;> (try simp only [hgW] at hg)) <;> simp -implicitDefEqProofs only [RS.cells, u8, hor, m8u, Int.reducePow, Int.cast_ofNat_Int, hn, go_sem, simprocAttr] <;> try simp (disch := omega) only [wrW])
     | with_reducible refine And.intro (by first | omega | (simp only [hgW]; omega)) ?_
     | (exfalso; omega)
    refine ⟨i + 1, ?_, by omega, by omega⟩
    have e1 : be (l.take i) * 256 + (l.getD i default).toNat = be (l.take (i + 1)) := by rw [← be_snoc, take_snoc (by omega)]
    have e2 : (i : Int) + 1 = ((i + 1 : Nat) : Int) := by omega
    rw [e1, e2]
    simp -implicitDefEqProofs only [Int.cast_ofNat_Int, hn, go_sem, simprocAttr]
    try rfl
end Go.Proofs.YtijcpdgfbboamaaDoor
