/- What reading one item comes to, once its kind is known. -/
import Derived.Test.YtijcpdgfbboamaaDoorVsCPair
open Go Go.VS
namespace Go.Proofs.YtijcpdgfbboamaaDoor
set_option linter.unusedVariables false
set_option linter.unusedSimpArgs false
set_option maxRecDepth 20000
set_option maxHeartbeats 4000000
/-- Texts are looked at. -/
def ValidOk (valid : List UInt8 → Bool) : Prop := ∀ l : List UInt8, l.length ≤ 100000 → CallsP Tryd.prog 44 [.sl none false 1 (l.map u8)] (.bool (valid l))
def k39_VsCItem2 : List Nat := [0,1,4,5,6,18,30,32,33,37,41,48,52,56,67,74]
attribute [go_sem] k39_VsCItem2
theorem f39_k0 {valid : List UInt8 → Bool} {deep : Nat} (b b' : List UInt8) (items n : Nat) (hi : items ≤ 511) (hn64 : n < 18446744073709551616) (hl : b.length ≤ 100000) (hl' : b'.length ≤ 100000)
    (c50 : CallsB Tryd.prog 50 [.ptr 1000000 0] [(RS.mk b (items + 1) 0).cells false] (.tup [.int .u8 ((0 : Nat) : Int), .int .u64 (n : Int)]) [(RS.mk b' (items + 1) 0).cells false]) :
    CallsB Tryd.prog 39 [.ptr 1000000 0, .int .i64 ((deep : Nat) : Int)] [(RS.mk b items 0).cells false] (bodyS valid (deep) 0 n ⟨b', items + 1, 0⟩).1.av [(bodyS valid (deep) 0 n ⟨b', items + 1, 0⟩).2.cells false] := by
  have e1 : (items : Int) + 1 = ((items + 1 : Nat) : Int) := by omega
  have e : bodyS valid deep 0 n ⟨b', items + 1, 0⟩ = (.mk 1 n true [] true [], ⟨b', items + 1, 0⟩) := rfl
  rw [e]
  refine CallsB.introF Tryd.func39 rfl (by show 2 ≤ 82; decide) ?_
  rintro X hX
  have hn : X.n = 82 := hX
  unfold Tryd.f39
  dsimp only
  rw [entryB21]
  repeat' first
   | with_reducible refine Rl.go (by constructor <;> decide) ?_
   | ((with_reducible first | refine hK _ ?_ | refine hK.1 ?_ | refine hK.2 ?_); clear hK K)
   | ((with_reducible refine condS hK (fun hg => ?_) fun hg => ?_) <;> clear hK K <;> (try simp only [hgW] at hg) <;> try (exfalso; omega))
   | ((with_reducible refine callE_B3 c50 ?_); simp -implicitDefEqProofs only [eqOk_true, RS.cells, av_mk, e1, Int.cast_ofNat_Int, hn, go_sem, simprocAttr]; (skip; try simp (disch := omega) only [wrW]); fail_if_success (with_reducible refine eqOk_mk ?_))
   | ((first | ((with_reducible first | refine Rk.go k39_VsCItem2 (by constructor) ?_); intro K hK) | with_reducible refine Rr.go [] (by constructor) ?_ | (with_reducible refine guardP_split (fun hg => ?_) fun hg => ?_) <;> (try simp only [hg]) <;> (try simp only [hgW] at hg)) <;> simp -implicitDefEqProofs only [RS.cells, av_mk, e1, Int.cast_ofNat_Int, hn, go_sem, simprocAttr] <;> try simp (disch := omega) only [wrW])
   | with_reducible refine And.intro (by first | omega | (simp only [hgW]; omega)) ?_
   | (exfalso; omega)
theorem f39_k1 {valid : List UInt8 → Bool} {deep : Nat} (b b' : List UInt8) (items n : Nat) (hi : items ≤ 511) (hn64 : n < 18446744073709551616) (hl : b.length ≤ 100000) (hl' : b'.length ≤ 100000)
    (c50 : CallsB Tryd.prog 50 [.ptr 1000000 0] [(RS.mk b (items + 1) 0).cells false] (.tup [.int .u8 ((1 : Nat) : Int), .int .u64 (n : Int)]) [(RS.mk b' (items + 1) 0).cells false]) :
    CallsB Tryd.prog 39 [.ptr 1000000 0, .int .i64 ((deep : Nat) : Int)] [(RS.mk b items 0).cells false] (bodyS valid (deep) 1 n ⟨b', items + 1, 0⟩).1.av [(bodyS valid (deep) 1 n ⟨b', items + 1, 0⟩).2.cells false] := by
  have e1 : (items : Int) + 1 = ((items + 1 : Nat) : Int) := by omega
  have e : bodyS valid deep 1 n ⟨b', items + 1, 0⟩ = (.mk 2 n true [] true [], ⟨b', items + 1, 0⟩) := rfl
  rw [e]
  refine CallsB.introF Tryd.func39 rfl (by show 2 ≤ 82; decide) ?_
  rintro X hX
  have hn : X.n = 82 := hX
  unfold Tryd.f39
  dsimp only
  rw [entryB21]
  repeat' first
   | with_reducible refine Rl.go (by constructor <;> decide) ?_
   | ((with_reducible first | refine hK _ ?_ | refine hK.1 ?_ | refine hK.2 ?_); clear hK K)
   | ((with_reducible refine condS hK (fun hg => ?_) fun hg => ?_) <;> clear hK K <;> (try simp only [hgW] at hg) <;> try (exfalso; omega))
   | ((with_reducible refine callE_B3 c50 ?_); simp -implicitDefEqProofs only [eqOk_true, RS.cells, av_mk, e1, Int.cast_ofNat_Int, hn, go_sem, simprocAttr]; (skip; try simp (disch := omega) only [wrW]); fail_if_success (with_reducible refine eqOk_mk ?_))
   | ((first | ((with_reducible first | refine Rk.go k39_VsCItem2 (by constructor) ?_); intro K hK) | with_reducible refine Rr.go [] (by constructor) ?_ | (with_reducible refine guardP_split (fun hg => ?_) fun hg => ?_) <;> (try simp only [hg]) <;> (try simp only [hgW] at hg)) <;> simp -implicitDefEqProofs only [RS.cells, av_mk, e1, Int.cast_ofNat_Int, hn, go_sem, simprocAttr] <;> try simp (disch := omega) only [wrW])
   | with_reducible refine And.intro (by first | omega | (simp only [hgW]; omega)) ?_
   | (exfalso; omega)
theorem f39_k2 {valid : List UInt8 → Bool} (hv : ValidOk valid) {deep : Nat} (b b' : List UInt8) (items n : Nat) (hi : items ≤ 511) (hn64 : n < 18446744073709551616) (hl : b.length ≤ 100000) (hl' : b'.length ≤ 100000)
    (c50 : CallsB Tryd.prog 50 [.ptr 1000000 0] [(RS.mk b (items + 1) 0).cells false] (.tup [.int .u8 ((2 : Nat) : Int), .int .u64 (n : Int)]) [(RS.mk b' (items + 1) 0).cells false]) :
    CallsB Tryd.prog 39 [.ptr 1000000 0, .int .i64 ((deep : Nat) : Int)] [(RS.mk b items 0).cells false] (bodyS valid (deep) 2 n ⟨b', items + 1, 0⟩).1.av [(bodyS valid (deep) 2 n ⟨b', items + 1, 0⟩).2.cells false] := by
  have e1 : (items : Int) + 1 = ((items + 1 : Nat) : Int) := by omega
  have e : bodyS valid deep 2 n ⟨b', items + 1, 0⟩ = bytesS valid 2 n ⟨b', items + 1, 0⟩ := rfl
  rw [e]
  have c51 := f51_ok hv ⟨b', items + 1, 0⟩ 2 n (.inl rfl) hn64 hl'
  obtain ⟨p, hp⟩ : ∃ p, bytesS valid 2 n ⟨b', items + 1, 0⟩ = p := ⟨_, rfl⟩
  rw [hp] at c51 ⊢
  obtain ⟨⟨vk, vn, vbn, vb, vkn, vks⟩, ⟨b3, i3, e3⟩⟩ := p
  simp only at c51 ⊢
  refine CallsB.introF Tryd.func39 rfl (by show 2 ≤ 82; decide) ?_
  rintro X hX
  have hn : X.n = 82 := hX
  unfold Tryd.f39
  dsimp only
  rw [entryB21]
  repeat' first
   | with_reducible refine Rl.go (by constructor <;> decide) ?_
   | ((with_reducible first | refine hK _ ?_ | refine hK.1 ?_ | refine hK.2 ?_); clear hK K)
   | ((with_reducible refine condS hK (fun hg => ?_) fun hg => ?_) <;> clear hK K <;> (try simp only [hgW] at hg) <;> try (exfalso; omega))
   | ((with_reducible refine callE_B3 c50 ?_); simp -implicitDefEqProofs only [eqOk_true, RS.cells, av_mk, e1, Int.cast_ofNat_Int, hn, go_sem, simprocAttr]; (skip; try simp (disch := omega) only [wrW]); fail_if_success (with_reducible refine eqOk_mk ?_))
   | ((with_reducible refine callE_B3 c51 ?_); simp -implicitDefEqProofs only [eqOk_true, RS.cells, av_mk, e1, Int.cast_ofNat_Int, hn, go_sem, simprocAttr]; (skip; try simp (disch := omega) only [wrW]); fail_if_success (with_reducible refine eqOk_mk ?_))
   | ((first | ((with_reducible first | refine Rk.go k39_VsCItem2 (by constructor) ?_); intro K hK) | with_reducible refine Rr.go [] (by constructor) ?_ | (with_reducible refine guardP_split (fun hg => ?_) fun hg => ?_) <;> (try simp only [hg]) <;> (try simp only [hgW] at hg)) <;> simp -implicitDefEqProofs only [RS.cells, av_mk, e1, Int.cast_ofNat_Int, hn, go_sem, simprocAttr] <;> try simp (disch := omega) only [wrW])
   | with_reducible refine And.intro (by first | omega | (simp only [hgW]; omega)) ?_
   | (exfalso; omega)
theorem f39_k3 {valid : List UInt8 → Bool} (hv : ValidOk valid) {deep : Nat} (b b' : List UInt8) (items n : Nat) (hi : items ≤ 511) (hn64 : n < 18446744073709551616) (hl : b.length ≤ 100000) (hl' : b'.length ≤ 100000)
    (c50 : CallsB Tryd.prog 50 [.ptr 1000000 0] [(RS.mk b (items + 1) 0).cells false] (.tup [.int .u8 ((3 : Nat) : Int), .int .u64 (n : Int)]) [(RS.mk b' (items + 1) 0).cells false]) :
    CallsB Tryd.prog 39 [.ptr 1000000 0, .int .i64 ((deep : Nat) : Int)] [(RS.mk b items 0).cells false] (bodyS valid (deep) 3 n ⟨b', items + 1, 0⟩).1.av [(bodyS valid (deep) 3 n ⟨b', items + 1, 0⟩).2.cells false] := by
  have e1 : (items : Int) + 1 = ((items + 1 : Nat) : Int) := by omega
  have e : bodyS valid deep 3 n ⟨b', items + 1, 0⟩ = bytesS valid 3 n ⟨b', items + 1, 0⟩ := rfl
  rw [e]
  have c51 := f51_ok hv ⟨b', items + 1, 0⟩ 3 n (.inr rfl) hn64 hl'
  obtain ⟨p, hp⟩ : ∃ p, bytesS valid 3 n ⟨b', items + 1, 0⟩ = p := ⟨_, rfl⟩
  rw [hp] at c51 ⊢
  obtain ⟨⟨vk, vn, vbn, vb, vkn, vks⟩, ⟨b3, i3, e3⟩⟩ := p
  simp only at c51 ⊢
  refine CallsB.introF Tryd.func39 rfl (by show 2 ≤ 82; decide) ?_
  rintro X hX
  have hn : X.n = 82 := hX
  unfold Tryd.f39
  dsimp only
  rw [entryB21]
  repeat' first
   | with_reducible refine Rl.go (by constructor <;> decide) ?_
   | ((with_reducible first | refine hK _ ?_ | refine hK.1 ?_ | refine hK.2 ?_); clear hK K)
   | ((with_reducible refine condS hK (fun hg => ?_) fun hg => ?_) <;> clear hK K <;> (try simp only [hgW] at hg) <;> try (exfalso; omega))
   | ((with_reducible refine callE_B3 c50 ?_); simp -implicitDefEqProofs only [eqOk_true, RS.cells, av_mk, e1, Int.cast_ofNat_Int, hn, go_sem, simprocAttr]; (skip; try simp (disch := omega) only [wrW]); fail_if_success (with_reducible refine eqOk_mk ?_))
   | ((with_reducible refine callE_B3 c51 ?_); simp -implicitDefEqProofs only [eqOk_true, RS.cells, av_mk, e1, Int.cast_ofNat_Int, hn, go_sem, simprocAttr]; (skip; try simp (disch := omega) only [wrW]); fail_if_success (with_reducible refine eqOk_mk ?_))
   | ((first | ((with_reducible first | refine Rk.go k39_VsCItem2 (by constructor) ?_); intro K hK) | with_reducible refine Rr.go [] (by constructor) ?_ | (with_reducible refine guardP_split (fun hg => ?_) fun hg => ?_) <;> (try simp only [hg]) <;> (try simp only [hgW] at hg)) <;> simp -implicitDefEqProofs only [RS.cells, av_mk, e1, Int.cast_ofNat_Int, hn, go_sem, simprocAttr] <;> try simp (disch := omega) only [wrW])
   | with_reducible refine And.intro (by first | omega | (simp only [hgW]; omega)) ?_
   | (exfalso; omega)
theorem f39_k40 {valid : List UInt8 → Bool} (b b' : List UInt8) (items n : Nat) (hi : items ≤ 511) (hn64 : n < 18446744073709551616) (hl : b.length ≤ 100000) (hl' : b'.length ≤ 100000)
    (c50 : CallsB Tryd.prog 50 [.ptr 1000000 0] [(RS.mk b (items + 1) 0).cells false] (.tup [.int .u8 ((4 : Nat) : Int), .int .u64 (n : Int)]) [(RS.mk b' (items + 1) 0).cells false]) :
    CallsB Tryd.prog 39 [.ptr 1000000 0, .int .i64 ((0 : Nat) : Int)] [(RS.mk b items 0).cells false] (bodyS valid (0) 4 n ⟨b', items + 1, 0⟩).1.av [(bodyS valid (0) 4 n ⟨b', items + 1, 0⟩).2.cells false] := by
  have e1 : (items : Int) + 1 = ((items + 1 : Nat) : Int) := by omega
  have e : bodyS valid 0 4 n ⟨b', items + 1, 0⟩ = (.zero, ⟨b', items + 1, 13⟩) := rfl
  rw [e]
  have c49 := f49_ok ⟨b', items + 1, 0⟩ false 13
  refine CallsB.introF Tryd.func39 rfl (by show 2 ≤ 82; decide) ?_
  rintro X hX
  have hn : X.n = 82 := hX
  unfold Tryd.f39
  dsimp only
  rw [entryB21]
  repeat' first
   | with_reducible refine Rl.go (by constructor <;> decide) ?_
   | ((with_reducible first | refine hK _ ?_ | refine hK.1 ?_ | refine hK.2 ?_); clear hK K)
   | ((with_reducible refine condS hK (fun hg => ?_) fun hg => ?_) <;> clear hK K <;> (try simp only [hgW] at hg) <;> try (exfalso; omega))
   | ((with_reducible refine callE_B3 c50 ?_); simp -implicitDefEqProofs only [eqOk_true, RS.cells, RS.fail, av_mk, zero_av, e1, Int.cast_ofNat_Int, hn, go_sem, simprocAttr]; (skip; try simp (disch := omega) only [wrW]); fail_if_success (with_reducible refine eqOk_mk ?_))
   | ((with_reducible refine callE_B3 c49 ?_); simp -implicitDefEqProofs only [eqOk_true, RS.cells, RS.fail, av_mk, zero_av, e1, Int.cast_ofNat_Int, hn, go_sem, simprocAttr]; (skip; try simp (disch := omega) only [wrW]); fail_if_success (with_reducible refine eqOk_mk ?_))
   | ((first | ((with_reducible first | refine Rk.go k39_VsCItem2 (by constructor) ?_); intro K hK) | with_reducible refine Rr.go [] (by constructor) ?_ | (with_reducible refine guardP_split (fun hg => ?_) fun hg => ?_) <;> (try simp only [hg]) <;> (try simp only [hgW] at hg)) <;> simp -implicitDefEqProofs only [RS.cells, RS.fail, av_mk, zero_av, e1, Int.cast_ofNat_Int, hn, go_sem, simprocAttr] <;> try simp (disch := omega) only [wrW])
   | with_reducible refine And.intro (by first | omega | (simp only [hgW]; omega)) ?_
   | (exfalso; omega)
theorem f39_k4s {valid : List UInt8 → Bool} {d : Nat} (hd : d ≤ 7) (ih : ItOk (itemS valid d) d) (b b' : List UInt8) (items n : Nat) (hi : items ≤ 511) (hn64 : n < 18446744073709551616) (hl : b.length ≤ 100000) (hl' : b'.length ≤ 100000)
    (c50 : CallsB Tryd.prog 50 [.ptr 1000000 0] [(RS.mk b (items + 1) 0).cells false] (.tup [.int .u8 ((4 : Nat) : Int), .int .u64 (n : Int)]) [(RS.mk b' (items + 1) 0).cells false]) :
    CallsB Tryd.prog 39 [.ptr 1000000 0, .int .i64 ((d + 1 : Nat) : Int)] [(RS.mk b items 0).cells false] (bodyS valid (d + 1) 4 n ⟨b', items + 1, 0⟩).1.av [(bodyS valid (d + 1) 4 n ⟨b', items + 1, 0⟩).2.cells false] := by
  have e1 : (items : Int) + 1 = ((items + 1 : Nat) : Int) := by omega
  have e : bodyS valid (d + 1) 4 n ⟨b', items + 1, 0⟩ = arrS (itemS valid d) n ⟨b', items + 1, 0⟩ [] := rfl
  rw [e]
  have c52 := f52_ok (itemS_keeps valid d) d ih n hn64 ⟨b', items + 1, 0⟩ rfl (by simp only; omega) (by simp only; omega)
  have e2 : ((d + 1 : Nat) : Int) - 1 = (d : Int) := by omega
  have e4 : ((d + 1 : Nat) : Int) = (d : Int) + 1 := by omega
  have e5 : (d : Int) + 1 - 1 = (d : Int) := by omega
  obtain ⟨p, hp⟩ : ∃ p, arrS (itemS valid d) n ⟨b', items + 1, 0⟩ [] = p := ⟨_, rfl⟩
  rw [hp] at c52 ⊢
  obtain ⟨⟨vk, vn, vbn, vb, vkn, vks⟩, ⟨b3, i3, e3⟩⟩ := p
  simp only at c52 ⊢
  refine CallsB.introF Tryd.func39 rfl (by show 2 ≤ 82; decide) ?_
  rintro X hX
  have hn : X.n = 82 := hX
  unfold Tryd.f39
  dsimp only
  rw [entryB21]
  repeat' first
   | with_reducible refine Rl.go (by constructor <;> decide) ?_
   | ((with_reducible first | refine hK _ ?_ | refine hK.1 ?_ | refine hK.2 ?_); clear hK K)
   | ((with_reducible refine condS hK (fun hg => ?_) fun hg => ?_) <;> clear hK K <;> (try simp only [hgW] at hg) <;> try (exfalso; omega))
   | ((with_reducible refine callE_B3 c50 ?_); simp -implicitDefEqProofs only [eqOk_true, RS.cells, av_mk, zero_av, e1, e2, e5, Int.cast_ofNat_Int, hn, go_sem, simprocAttr]; (skip; try (simp (disch := omega) only [wrW]; try simp -implicitDefEqProofs only [RS.cells, av_mk, zero_av, e1, e2, e5, Int.cast_ofNat_Int, hn, go_sem, simprocAttr])); fail_if_success (with_reducible refine eqOk_mk ?_))
   | ((with_reducible refine callE_B3 c52 ?_); simp -implicitDefEqProofs only [eqOk_true, RS.cells, av_mk, zero_av, e1, e2, e5, Int.cast_ofNat_Int, hn, go_sem, simprocAttr]; (skip; try (simp (disch := omega) only [wrW]; try simp -implicitDefEqProofs only [RS.cells, av_mk, zero_av, e1, e2, e5, Int.cast_ofNat_Int, hn, go_sem, simprocAttr])); fail_if_success (with_reducible refine eqOk_mk ?_))
   | ((first | ((with_reducible first | refine Rk.go k39_VsCItem2 (by constructor) ?_); intro K hK) | with_reducible refine Rr.go [] (by constructor) ?_ | (with_reducible refine guardP_split (fun hg => ?_) fun hg => ?_) <;> (try simp only [hg]) <;> (try simp only [hgW] at hg)) <;> simp -implicitDefEqProofs only [RS.cells, av_mk, zero_av, e1, e2, e5, Int.cast_ofNat_Int, hn, go_sem, simprocAttr] <;> try (simp (disch := omega) only [wrW]; try simp -implicitDefEqProofs only [RS.cells, av_mk, zero_av, e1, e2, e5, Int.cast_ofNat_Int, hn, go_sem, simprocAttr]))
   | with_reducible refine And.intro (by first | omega | (simp only [hgW]; omega)) ?_
   | (exfalso; omega)
theorem f39_k50 {valid : List UInt8 → Bool} (b b' : List UInt8) (items n : Nat) (hi : items ≤ 511) (hn64 : n < 18446744073709551616) (hl : b.length ≤ 100000) (hl' : b'.length ≤ 100000)
    (c50 : CallsB Tryd.prog 50 [.ptr 1000000 0] [(RS.mk b (items + 1) 0).cells false] (.tup [.int .u8 ((5 : Nat) : Int), .int .u64 (n : Int)]) [(RS.mk b' (items + 1) 0).cells false]) :
    CallsB Tryd.prog 39 [.ptr 1000000 0, .int .i64 ((0 : Nat) : Int)] [(RS.mk b items 0).cells false] (bodyS valid (0) 5 n ⟨b', items + 1, 0⟩).1.av [(bodyS valid (0) 5 n ⟨b', items + 1, 0⟩).2.cells false] := by
  have e1 : (items : Int) + 1 = ((items + 1 : Nat) : Int) := by omega
  have e : bodyS valid 0 5 n ⟨b', items + 1, 0⟩ = (.zero, ⟨b', items + 1, 13⟩) := rfl
  rw [e]
  have c49 := f49_ok ⟨b', items + 1, 0⟩ false 13
  refine CallsB.introF Tryd.func39 rfl (by show 2 ≤ 82; decide) ?_
  rintro X hX
  have hn : X.n = 82 := hX
  unfold Tryd.f39
  dsimp only
  rw [entryB21]
  repeat' first
   | with_reducible refine Rl.go (by constructor <;> decide) ?_
   | ((with_reducible first | refine hK _ ?_ | refine hK.1 ?_ | refine hK.2 ?_); clear hK K)
   | ((with_reducible refine condS hK (fun hg => ?_) fun hg => ?_) <;> clear hK K <;> (try simp only [hgW] at hg) <;> try (exfalso; omega))
   | ((with_reducible refine callE_B3 c50 ?_); simp -implicitDefEqProofs only [eqOk_true, RS.cells, RS.fail, av_mk, zero_av, e1, Int.cast_ofNat_Int, hn, go_sem, simprocAttr]; (skip; try (simp (disch := omega) only [wrW]; try simp -implicitDefEqProofs only [RS.cells, RS.fail, av_mk, zero_av, e1, Int.cast_ofNat_Int, hn, go_sem, simprocAttr])); fail_if_success (with_reducible refine eqOk_mk ?_))
   | ((with_reducible refine callE_B3 c49 ?_); simp -implicitDefEqProofs only [eqOk_true, RS.cells, RS.fail, av_mk, zero_av, e1, Int.cast_ofNat_Int, hn, go_sem, simprocAttr]; (skip; try (simp (disch := omega) only [wrW]; try simp -implicitDefEqProofs only [RS.cells, RS.fail, av_mk, zero_av, e1, Int.cast_ofNat_Int, hn, go_sem, simprocAttr])); fail_if_success (with_reducible refine eqOk_mk ?_))
   | ((first | ((with_reducible first | refine Rk.go k39_VsCItem2 (by constructor) ?_); intro K hK) | with_reducible refine Rr.go [] (by constructor) ?_ | (with_reducible refine guardP_split (fun hg => ?_) fun hg => ?_) <;> (try simp only [hg]) <;> (try simp only [hgW] at hg)) <;> simp -implicitDefEqProofs only [RS.cells, RS.fail, av_mk, zero_av, e1, Int.cast_ofNat_Int, hn, go_sem, simprocAttr] <;> try (simp (disch := omega) only [wrW]; try simp -implicitDefEqProofs only [RS.cells, RS.fail, av_mk, zero_av, e1, Int.cast_ofNat_Int, hn, go_sem, simprocAttr]))
   | with_reducible refine And.intro (by first | omega | (simp only [hgW]; omega)) ?_
   | (exfalso; omega)
theorem f39_k5s {valid : List UInt8 → Bool} {d : Nat} (hd : d ≤ 7) (ih : ItOk (itemS valid d) d) (b b' : List UInt8) (items n : Nat) (hi : items ≤ 511) (hn64 : n < 18446744073709551616) (hl : b.length ≤ 100000) (hl' : b'.length ≤ 100000)
    (c50 : CallsB Tryd.prog 50 [.ptr 1000000 0] [(RS.mk b (items + 1) 0).cells false] (.tup [.int .u8 ((5 : Nat) : Int), .int .u64 (n : Int)]) [(RS.mk b' (items + 1) 0).cells false]) :
    CallsB Tryd.prog 39 [.ptr 1000000 0, .int .i64 ((d + 1 : Nat) : Int)] [(RS.mk b items 0).cells false] (bodyS valid (d + 1) 5 n ⟨b', items + 1, 0⟩).1.av [(bodyS valid (d + 1) 5 n ⟨b', items + 1, 0⟩).2.cells false] := by
  have e1 : (items : Int) + 1 = ((items + 1 : Nat) : Int) := by omega
  have e : bodyS valid (d + 1) 5 n ⟨b', items + 1, 0⟩ = pairS (itemS valid d) n ⟨b', items + 1, 0⟩ [] := rfl
  rw [e]
  have c53 := f53_ok (by omega) (itemS_keeps valid d) d ih n hn64 ⟨b', items + 1, 0⟩ rfl (by simp only; omega) (by simp only; omega)
  have e2 : ((d + 1 : Nat) : Int) - 1 = (d : Int) := by omega
  have e4 : ((d + 1 : Nat) : Int) = (d : Int) + 1 := by omega
  have e5 : (d : Int) + 1 - 1 = (d : Int) := by omega
  obtain ⟨p, hp⟩ : ∃ p, pairS (itemS valid d) n ⟨b', items + 1, 0⟩ [] = p := ⟨_, rfl⟩
  rw [hp] at c53 ⊢
  obtain ⟨⟨vk, vn, vbn, vb, vkn, vks⟩, ⟨b3, i3, e3⟩⟩ := p
  simp only at c53 ⊢
  refine CallsB.introF Tryd.func39 rfl (by show 2 ≤ 82; decide) ?_
  rintro X hX
  have hn : X.n = 82 := hX
  unfold Tryd.f39
  dsimp only
  rw [entryB21]
  repeat' first
   | with_reducible refine Rl.go (by constructor <;> decide) ?_
   | ((with_reducible first | refine hK _ ?_ | refine hK.1 ?_ | refine hK.2 ?_); clear hK K)
   | ((with_reducible refine condS hK (fun hg => ?_) fun hg => ?_) <;> clear hK K <;> (try simp only [hgW] at hg) <;> try (exfalso; omega))
   | ((with_reducible refine callE_B3 c50 ?_); simp -implicitDefEqProofs only [eqOk_true, RS.cells, av_mk, zero_av, e1, e2, e5, Int.cast_ofNat_Int, hn, go_sem, simprocAttr]; (skip; try (simp (disch := omega) only [wrW]; try simp -implicitDefEqProofs only [RS.cells, av_mk, zero_av, e1, e2, e5, Int.cast_ofNat_Int, hn, go_sem, simprocAttr])); fail_if_success (with_reducible refine eqOk_mk ?_))
   | ((with_reducible refine callE_B3 c53 ?_); simp -implicitDefEqProofs only [eqOk_true, RS.cells, av_mk, zero_av, e1, e2, e5, Int.cast_ofNat_Int, hn, go_sem, simprocAttr]; (skip; try (simp (disch := omega) only [wrW]; try simp -implicitDefEqProofs only [RS.cells, av_mk, zero_av, e1, e2, e5, Int.cast_ofNat_Int, hn, go_sem, simprocAttr])); fail_if_success (with_reducible refine eqOk_mk ?_))
   | ((first | ((with_reducible first | refine Rk.go k39_VsCItem2 (by constructor) ?_); intro K hK) | with_reducible refine Rr.go [] (by constructor) ?_ | (with_reducible refine guardP_split (fun hg => ?_) fun hg => ?_) <;> (try simp only [hg]) <;> (try simp only [hgW] at hg)) <;> simp -implicitDefEqProofs only [RS.cells, av_mk, zero_av, e1, e2, e5, Int.cast_ofNat_Int, hn, go_sem, simprocAttr] <;> try (simp (disch := omega) only [wrW]; try simp -implicitDefEqProofs only [RS.cells, av_mk, zero_av, e1, e2, e5, Int.cast_ofNat_Int, hn, go_sem, simprocAttr]))
   | with_reducible refine And.intro (by first | omega | (simp only [hgW]; omega)) ?_
   | (exfalso; omega)
theorem f39_k6 {valid : List UInt8 → Bool} {deep : Nat} (b b' : List UInt8) (items n : Nat) (hi : items ≤ 511) (hn64 : n < 18446744073709551616) (hl : b.length ≤ 100000) (hl' : b'.length ≤ 100000)
    (c50 : CallsB Tryd.prog 50 [.ptr 1000000 0] [(RS.mk b (items + 1) 0).cells false] (.tup [.int .u8 ((6 : Nat) : Int), .int .u64 (n : Int)]) [(RS.mk b' (items + 1) 0).cells false]) :
    CallsB Tryd.prog 39 [.ptr 1000000 0, .int .i64 ((deep : Nat) : Int)] [(RS.mk b items 0).cells false] (bodyS valid (deep) 6 n ⟨b', items + 1, 0⟩).1.av [(bodyS valid (deep) 6 n ⟨b', items + 1, 0⟩).2.cells false] := by
  have e1 : (items : Int) + 1 = ((items + 1 : Nat) : Int) := by omega
  have e : bodyS valid deep 6 n ⟨b', items + 1, 0⟩ = (.zero, ⟨b', items + 1, 20⟩) := rfl
  rw [e]
  have c49 := f49_ok ⟨b', items + 1, 0⟩ false 20
  refine CallsB.introF Tryd.func39 rfl (by show 2 ≤ 82; decide) ?_
  rintro X hX
  have hn : X.n = 82 := hX
  unfold Tryd.f39
  dsimp only
  rw [entryB21]
  repeat' first
   | with_reducible refine Rl.go (by constructor <;> decide) ?_
   | ((with_reducible first | refine hK _ ?_ | refine hK.1 ?_ | refine hK.2 ?_); clear hK K)
   | ((with_reducible refine condS hK (fun hg => ?_) fun hg => ?_) <;> clear hK K <;> (try simp only [hgW] at hg) <;> try (exfalso; omega))
   | ((with_reducible refine callE_B3 c50 ?_); simp -implicitDefEqProofs only [eqOk_true, RS.cells, RS.fail, av_mk, zero_av, e1, Int.cast_ofNat_Int, hn, go_sem, simprocAttr]; (skip; try simp (disch := omega) only [wrW]); fail_if_success (with_reducible refine eqOk_mk ?_))
   | ((with_reducible refine callE_B3 c49 ?_); simp -implicitDefEqProofs only [eqOk_true, RS.cells, RS.fail, av_mk, zero_av, e1, Int.cast_ofNat_Int, hn, go_sem, simprocAttr]; (skip; try simp (disch := omega) only [wrW]); fail_if_success (with_reducible refine eqOk_mk ?_))
   | ((first | ((with_reducible first | refine Rk.go k39_VsCItem2 (by constructor) ?_); intro K hK) | with_reducible refine Rr.go [] (by constructor) ?_ | (with_reducible refine guardP_split (fun hg => ?_) fun hg => ?_) <;> (try simp only [hg]) <;> (try simp only [hgW] at hg)) <;> simp -implicitDefEqProofs only [RS.cells, RS.fail, av_mk, zero_av, e1, Int.cast_ofNat_Int, hn, go_sem, simprocAttr] <;> try simp (disch := omega) only [wrW])
   | with_reducible refine And.intro (by first | omega | (simp only [hgW]; omega)) ?_
   | (exfalso; omega)
theorem f39_k7 {valid : List UInt8 → Bool} {deep : Nat} (b b' : List UInt8) (items n : Nat) (hi : items ≤ 511) (hn64 : n < 18446744073709551616) (hl : b.length ≤ 100000) (hl' : b'.length ≤ 100000)
    (c50 : CallsB Tryd.prog 50 [.ptr 1000000 0] [(RS.mk b (items + 1) 0).cells false] (.tup [.int .u8 ((7 : Nat) : Int), .int .u64 (n : Int)]) [(RS.mk b' (items + 1) 0).cells false]) :
    CallsB Tryd.prog 39 [.ptr 1000000 0, .int .i64 ((deep : Nat) : Int)] [(RS.mk b items 0).cells false] (bodyS valid (deep) 7 n ⟨b', items + 1, 0⟩).1.av [(bodyS valid (deep) 7 n ⟨b', items + 1, 0⟩).2.cells false] := by
  have e1 : (items : Int) + 1 = ((items + 1 : Nat) : Int) := by omega
  have c49 := f49_ok ⟨b', items + 1, 0⟩ false 20
  by_cases hn2 : 20 ≤ n ∧ n ≤ 22
  · have e : bodyS valid deep 7 n ⟨b', items + 1, 0⟩ = (.mk (7 + (n - 20)) 0 true [] true [], ⟨b', items + 1, 0⟩) := by
      unfold bodyS
      simp [hn2]
    rw [e]
    have e3 : (7 : Int) + ((n : Int) - 20) = ((7 + (n - 20) : Nat) : Int) := by omega
    refine CallsB.introF Tryd.func39 rfl (by show 2 ≤ 82; decide) ?_
    rintro X hX
    have hn : X.n = 82 := hX
    unfold Tryd.f39
    dsimp only
    rw [entryB21]
    repeat' first
     | with_reducible refine Rl.go (by constructor <;> decide) ?_
     | ((with_reducible first | refine hK _ ?_ | refine hK.1 ?_ | refine hK.2 ?_); clear hK K)
     | ((with_reducible refine condS hK (fun hg => ?_) fun hg => ?_) <;> clear hK K <;> (try simp only [hgW] at hg) <;> try (exfalso; omega))
     | ((with_reducible refine callE_B3 c50 ?_); simp -implicitDefEqProofs only [eqOk_true, RS.cells, RS.fail, av_mk, zero_av, e1, e3, Int.cast_ofNat_Int, hn, go_sem, simprocAttr]; (skip; try simp (disch := omega) only [wrW]); fail_if_success (with_reducible refine eqOk_mk ?_))
     | ((with_reducible refine callE_B3 c49 ?_); simp -implicitDefEqProofs only [eqOk_true, RS.cells, RS.fail, av_mk, zero_av, e1, e3, Int.cast_ofNat_Int, hn, go_sem, simprocAttr]; (skip; try simp (disch := omega) only [wrW]); fail_if_success (with_reducible refine eqOk_mk ?_))
     | ((first | ((with_reducible first | refine Rk.go k39_VsCItem2 (by constructor) ?_); intro K hK) | with_reducible refine Rr.go [] (by constructor) ?_ | (with_reducible refine guardP_split (fun hg => ?_) fun hg => ?_) <;> (try simp only [hg]) <;> (try simp only [hgW] at hg)) <;> simp -implicitDefEqProofs only [RS.cells, RS.fail, av_mk, zero_av, e1, e3, Int.cast_ofNat_Int, hn, go_sem, simprocAttr] <;> try simp (disch := omega) only [wrW])
     | with_reducible refine And.intro (by first | omega | (simp only [hgW]; omega)) ?_
     | (exfalso; omega)
  · have e : bodyS valid deep 7 n ⟨b', items + 1, 0⟩ = (.zero, ⟨b', items + 1, 20⟩) := by
      unfold bodyS
      rw [if_neg (by decide), if_neg (by decide), if_neg (by decide), if_neg (by decide), if_neg (fun h => hn2 h.2)]
      rfl
    rw [e]
    refine CallsB.introF Tryd.func39 rfl (by show 2 ≤ 82; decide) ?_
    rintro X hX
    have hn : X.n = 82 := hX
    unfold Tryd.f39
    dsimp only
    rw [entryB21]
    repeat' first
     | with_reducible refine Rl.go (by constructor <;> decide) ?_
     | ((with_reducible first | refine hK _ ?_ | refine hK.1 ?_ | refine hK.2 ?_); clear hK K)
     | ((with_reducible refine condS hK (fun hg => ?_) fun hg => ?_) <;> clear hK K <;> (try simp only [hgW] at hg) <;> try (exfalso; omega))
     | ((with_reducible refine callE_B3 c50 ?_); simp -implicitDefEqProofs only [eqOk_true, RS.cells, RS.fail, av_mk, zero_av, e1, Int.cast_ofNat_Int, hn, go_sem, simprocAttr]; (skip; try simp (disch := omega) only [wrW]); fail_if_success (with_reducible refine eqOk_mk ?_))
     | ((with_reducible refine callE_B3 c49 ?_); simp -implicitDefEqProofs only [eqOk_true, RS.cells, RS.fail, av_mk, zero_av, e1, Int.cast_ofNat_Int, hn, go_sem, simprocAttr]; (skip; try simp (disch := omega) only [wrW]); fail_if_success (with_reducible refine eqOk_mk ?_))
     | ((first | ((with_reducible first | refine Rk.go k39_VsCItem2 (by constructor) ?_); intro K hK) | with_reducible refine Rr.go [] (by constructor) ?_ | (with_reducible refine guardP_split (fun hg => ?_) fun hg => ?_) <;> (try simp only [hg]) <;> (try simp only [hgW] at hg)) <;> simp -implicitDefEqProofs only [RS.cells, RS.fail, av_mk, zero_av, e1, Int.cast_ofNat_Int, hn, go_sem, simprocAttr] <;> try simp (disch := omega) only [wrW])
     | with_reducible refine And.intro (by first | omega | (simp only [hgW]; omega)) ?_
     | (exfalso; omega)
end Go.Proofs.YtijcpdgfbboamaaDoor
open Go Go.VS
namespace Go.Proofs.YtijcpdgfbboamaaDoor
set_option linter.unusedVariables false
set_option linter.unusedSimpArgs false
set_option maxRecDepth 20000
set_option maxHeartbeats 4000000
def k39_VsCItem3 : List Nat := [0,1,4,5,6,18,30,32,33,37,41,48,52,56,67,74]
attribute [go_sem] k39_VsCItem3
theorem f39_many (valid : List UInt8 → Bool) (deep : Nat) (s : RS) (nb : Bool) (hi : s.items ≤ 10000) (hm : 512 < s.items + 1) :
    CallsB Tryd.prog 39 [.ptr 1000000 0, .int .i64 (deep : Int)] [s.cells nb] CI.zero.av [(({ s with items := s.items + 1 } : RS).fail 14).cells nb] := by
  obtain ⟨b, items, err⟩ := s
  simp only at *
  have c49 := f49_ok ⟨b, items + 1, err⟩ nb 14
  have e1 : (items : Int) + 1 = ((items + 1 : Nat) : Int) := by omega
  refine CallsB.introF Tryd.func39 rfl (by show 2 ≤ 82; decide) ?_
  rintro X hX
  have hn : X.n = 82 := hX
  unfold Tryd.f39
  dsimp only
  rw [entryB21]
  repeat' first
   | with_reducible refine Rl.go (by constructor <;> decide) ?_
   | ((with_reducible first | refine hK _ ?_ | refine hK.1 ?_ | refine hK.2 ?_); clear hK K)
   | ((with_reducible refine condS hK (fun hg => ?_) fun hg => ?_) <;> clear hK K <;> (try simp only [hgW] at hg) <;> try (exfalso; omega))
   | ((with_reducible refine callE_B3 c49 ?_); simp -implicitDefEqProofs only [eqOk_true, RS.cells, zero_av, e1, Int.cast_ofNat_Int, hn, go_sem, simprocAttr]; (skip; try simp (disch := omega) only [wrW]); fail_if_success (with_reducible refine eqOk_mk ?_))
   | ((first | ((with_reducible first | refine Rk.go k39_VsCItem3 (by constructor) ?_); intro K hK) | with_reducible refine Rr.go [] (by constructor) ?_ | (with_reducible refine guardP_split (fun hg => ?_) fun hg => ?_) <;> (try simp only [hg]) <;> (try simp only [hgW] at hg)) <;> simp -implicitDefEqProofs only [RS.cells, zero_av, e1, Int.cast_ofNat_Int, hn, go_sem, simprocAttr] <;> try simp (disch := omega) only [wrW])
   | with_reducible refine And.intro (by first | omega | (simp only [hgW]; omega)) ?_
   | (exfalso; omega)
theorem f39_err (deep : Nat) (b b' : List UInt8) (items err err' : Nat) (kind n : Nat) (nb : Bool) (hi : items ≤ 511) (he : err' ≠ 0)
    (c50 : CallsB Tryd.prog 50 [.ptr 1000000 0] [(RS.mk b (items + 1) err).cells nb] (.tup [.int .u8 (kind : Int), .int .u64 (n : Int)]) [(RS.mk b' (items + 1) err').cells nb]) :
    CallsB Tryd.prog 39 [.ptr 1000000 0, .int .i64 (deep : Int)] [(RS.mk b items err).cells nb] CI.zero.av [(RS.mk b' (items + 1) err').cells nb] := by
  have e1 : (items : Int) + 1 = ((items + 1 : Nat) : Int) := by omega
  refine CallsB.introF Tryd.func39 rfl (by show 2 ≤ 82; decide) ?_
  rintro X hX
  have hn : X.n = 82 := hX
  unfold Tryd.f39
  dsimp only
  rw [entryB21]
  repeat' first
   | with_reducible refine Rl.go (by constructor <;> decide) ?_
   | ((with_reducible first | refine hK _ ?_ | refine hK.1 ?_ | refine hK.2 ?_); clear hK K)
   | ((with_reducible refine condS hK (fun hg => ?_) fun hg => ?_) <;> clear hK K <;> (try simp only [hgW] at hg) <;> try (exfalso; omega))
   | ((with_reducible refine callE_B3 c50 ?_); simp -implicitDefEqProofs only [eqOk_true, RS.cells, av_mk, zero_av, e1, Int.cast_ofNat_Int, hn, go_sem, simprocAttr]; (skip; try simp (disch := omega) only [wrW]); fail_if_success (with_reducible refine eqOk_mk ?_))
   | ((first | ((with_reducible first | refine Rk.go k39_VsCItem3 (by constructor) ?_); intro K hK) | with_reducible refine Rr.go [] (by constructor) ?_ | (with_reducible refine guardP_split (fun hg => ?_) fun hg => ?_) <;> (try simp only [hg]) <;> (try simp only [hgW] at hg)) <;> simp -implicitDefEqProofs only [RS.cells, av_mk, zero_av, e1, Int.cast_ofNat_Int, hn, go_sem, simprocAttr] <;> try simp (disch := omega) only [wrW])
   | with_reducible refine And.intro (by first | omega | (simp only [hgW]; omega)) ?_
   | (exfalso; omega)
theorem f39_ok {valid : List UInt8 → Bool} (hv : ValidOk valid) : ∀ (deep : Nat), deep ≤ 8 → ∀ (s : RS) (nb : Bool), (nb = true → s.b = []) → s.b.length ≤ 100000 → s.items ≤ 10000 →
    CallsB Tryd.prog 39 [.ptr 1000000 0, .int .i64 (deep : Int)] [s.cells nb] (itemS valid deep s).1.av [(itemS valid deep s).2.cells nb] := by
  intro deep
  induction deep with
  | zero => ?_
  | succ d ih => ?_
  all_goals
    intro hdeep s nb hnb hl hi
    rw [itemS_eq]
    by_cases hmany : 512 < s.items + 1
    · rw [if_pos hmany]
      exact f39_many valid _ s nb hi hmany
    rw [if_neg hmany]
    have c50 := f50_ok { s with items := s.items + 1 } nb hnb hl
    have hlen := headS_len { s with items := s.items + 1 }
    have hitems := headS_items { s with items := s.items + 1 }
    have hne := headS_ne { s with items := s.items + 1 }
    have hbd := headS_bd { s with items := s.items + 1 }
    have herr := headS_err { s with items := s.items + 1 }
    obtain ⟨h, hh⟩ : ∃ h, headS { s with items := s.items + 1 } = h := ⟨_, rfl⟩
    rw [hh] at c50 hlen hitems hne hbd herr ⊢
    obtain ⟨b, items, err⟩ := s
    obtain ⟨kind, n, ⟨b', items', err'⟩⟩ := h
    simp only at *
    subst hitems
    by_cases he : err' = 0
    · subst he
      rw [if_neg (by simp)]
      have herr0 : err = 0 := by
        by_cases h : err = 0
        · exact h
        · exact absurd (herr h).symm h
      subst herr0
      have hb : b ≠ [] := hne rfl
      have hnbf : nb = false := by
        cases nb with
        | false => rfl
        | true => exact absurd (hnb rfl) hb
      subst hnbf
      have hk8 : kind = 0 ∨ kind = 1 ∨ kind = 2 ∨ kind = 3 ∨ kind = 4 ∨ kind = 5 ∨ kind = 6 ∨ kind = 7 := by omega
      rcases hk8 with rfl | rfl | rfl | rfl | rfl | rfl | rfl | rfl
      · exact f39_k0 b b' items n (by omega) hbd.2 hl (by omega) c50
      · exact f39_k1 b b' items n (by omega) hbd.2 hl (by omega) c50
      · exact f39_k2 hv b b' items n (by omega) hbd.2 hl (by omega) c50
      · exact f39_k3 hv b b' items n (by omega) hbd.2 hl (by omega) c50
      · first
        | exact f39_k40 b b' items n (by omega) hbd.2 hl (by omega) c50
        | exact f39_k4s (by omega) (fun s h1 h2 => ih (by omega) s false (fun h => by cases h) h1 h2) b b' items n (by omega) hbd.2 hl (by omega) c50
      · first
        | exact f39_k50 b b' items n (by omega) hbd.2 hl (by omega) c50
        | exact f39_k5s (by omega) (fun s h1 h2 => ih (by omega) s false (fun h => by cases h) h1 h2) b b' items n (by omega) hbd.2 hl (by omega) c50
      · exact f39_k6 b b' items n (by omega) hbd.2 hl (by omega) c50
      · exact f39_k7 b b' items n (by omega) hbd.2 hl (by omega) c50
    · rw [if_pos he]
      exact f39_err _ b b' items err err' kind n nb (by omega) he c50
end Go.Proofs.YtijcpdgfbboamaaDoor
