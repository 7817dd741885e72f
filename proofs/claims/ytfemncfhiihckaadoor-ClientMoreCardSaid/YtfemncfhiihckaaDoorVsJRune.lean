/- What utf8's AppendRune appends, and what DecodeRune reads. -/
import Derived.Test.YtfemncfhiihckaaDoorVsJHead
import Derived.Laws.BitsAllLaws
import Derived.Lib.ValidAsc
open Go Go.VS
namespace Go.Proofs.YtfemncfhiihckaaDoor
set_option linter.unusedVariables false
set_option linter.unusedSimpArgs false
set_option maxRecDepth 20000
set_option maxHeartbeats 4000000
/-- A rune's bytes. -/
def encB (x : Nat) : List UInt8 :=
  if x < 128 then [UInt8.ofNat x]
  else if x < 2048 then [UInt8.ofNat (192 + x / 64), UInt8.ofNat (128 + x % 64)]
  else if x < 65536 then [UInt8.ofNat (224 + x / 4096), UInt8.ofNat (128 + x / 64 % 64), UInt8.ofNat (128 + x % 64)]
  else [UInt8.ofNat (240 + x / 262144), UInt8.ofNat (128 + x / 4096 % 64), UInt8.ofNat (128 + x / 64 % 64), UInt8.ofNat (128 + x % 64)]
theorem bor8 (a m : Nat) (n : Nat) (hm : m < 2 ^ n) (h : a * 2 ^ n + m < 256) : bitop .or .u8 ((a * 2 ^ n : Nat) : Int) (m : Int) = ((a * 2 ^ n + m : Nat) : Int) := by
  have := u8_or_nat (a * 2 ^ n) m (by omega) (by omega)
  rw [or_shift a m n hm] at this
  exact this
theorem band8 (c : Nat) (n : Nat) (h : c < 256) (hn : 2 ^ n - 1 < 256) : bitop .and .u8 (c : Int) ((2 ^ n - 1 : Nat) : Int) = ((c % 2 ^ n : Nat) : Int) := by
  have := u8_and_nat c (2 ^ n - 1) h hn
  rw [Nat.and_two_pow_sub_one_eq_mod] at this
  exact this
theorem uwrap8 (x : Nat) : IntKind.u8.wrap (x : Int) = ((x % 256 : Nat) : Int) := by
  rw [show IntKind.u8.wrap (x : Int) = (x : Int) % 256 from IntKind.wrap_u8' _]; omega
theorem ofNat8 (x : Nat) (h : x < 256) : (UInt8.ofNat x).toNat = x := by rw [UInt8.toNat_ofNat']; omega
theorem low63 (x : Nat) : bitop .or .u8 128 (bitop .and .u8 (IntKind.u8.wrap (x : Int)) 63) = ((128 + x % 64 : Nat) : Int) := by
  rw [uwrap8]
  have h1 := band8 (x % 256) 6 (by omega) (by omega)
  simp only [Nat.reducePow, Nat.reduceSub, Int.cast_ofNat_Int] at h1
  rw [h1, show x % 256 % 64 = x % 64 by omega]
  have h2 := bor8 2 (x % 64) 6 (by omega) (by omega)
  simp only [Nat.reducePow, Nat.reduceMul, Int.cast_ofNat_Int] at h2
  exact h2
theorem fd (x k : Nat) : ((x : Int)).fdiv ((2 ^ k : Nat) : Int) = ((x / 2 ^ k : Nat) : Int) := by
  rw [Int.fdiv_eq_ediv_of_nonneg _ (Int.natCast_nonneg _)]; rfl
theorem hi192 (x : Nat) (h : x < 2048) : bitop .or .u8 192 (IntKind.u8.wrap ((x / 64 : Nat) : Int)) = ((192 + x / 64 : Nat) : Int) := by
  rw [uwrap8, Nat.mod_eq_of_lt (by omega)]
  have h2 := bor8 6 (x / 64) 5 (by omega) (by omega)
  simp only [Nat.reducePow, Nat.reduceMul, Int.cast_ofNat_Int] at h2
  exact h2
theorem hi224 (x : Nat) (h : x < 65536) : bitop .or .u8 224 (IntKind.u8.wrap ((x / 4096 : Nat) : Int)) = ((224 + x / 4096 : Nat) : Int) := by
  rw [uwrap8, Nat.mod_eq_of_lt (by omega)]
  have h2 := bor8 14 (x / 4096) 4 (by omega) (by omega)
  simp only [Nat.reducePow, Nat.reduceMul, Int.cast_ofNat_Int] at h2
  exact h2
theorem hi240 (x : Nat) (h : x < 1114112) : bitop .or .u8 240 (IntKind.u8.wrap ((x / 262144 : Nat) : Int)) = ((240 + x / 262144 : Nat) : Int) := by
  rw [uwrap8, Nat.mod_eq_of_lt (by omega)]
  have h2 := bor8 30 (x / 262144) 3 (by omega) (by omega)
  simp only [Nat.reducePow, Nat.reduceMul, Int.cast_ofNat_Int] at h2
  exact h2
theorem sh6 (x : Nat) : ((x : Int)).fdiv 64 = ((x / 64 : Nat) : Int) := fd x 6
theorem sh12 (x : Nat) : ((x : Int)).fdiv 4096 = ((x / 4096 : Nat) : Int) := fd x 12
theorem sh18 (x : Nat) : ((x : Int)).fdiv 262144 = ((x / 262144 : Nat) : Int) := fd x 18
theorem mi6 : min 6 IntKind.i32.bits = 6 := rfl
theorem mi12 : min 12 IntKind.i32.bits = 12 := rfl
theorem mi18 : min 18 IntKind.i32.bits = 18 := rfl
def k72_VsJRune : List Nat := [0,1,4,5,11,25,50]
attribute [go_sem] k72_VsJRune
theorem f72_ok (out : List UInt8) (nb : Bool) (hl : out.length ≤ 1000000) (x : Nat) (h128 : 128 ≤ x) (hx : x < 1114112) (hs : ¬ (55296 ≤ x ∧ x < 57344)) :
    CallsB Tryd.prog 72 [.sl (some ((4, 0), 0)) nb 1 (out.map u8), .int .i32 (x : Int)] [] (.sl (some ((3, 0), 0)) false 1 ((out ++ encB x).map u8)) [] := by
  have hu := Go.IntWalk.u32_in (x : Int) (by omega)
  by_cases h1 : x < 2048
  · have e : (out ++ encB x).map u8 = out.map u8 ++ [.int .u8 ((192 + x / 64 : Nat) : Int), .int .u8 ((128 + x % 64 : Nat) : Int)] := by
      rw [List.map_append]; unfold encB; rw [if_neg (by omega), if_pos h1]
      simp [u8, ofNat8 _ (show 192 + x / 64 < 256 by omega), ofNat8 _ (show 128 + x % 64 < 256 by omega)]
      omega
    rw [e]
    refine CallsB.intro Tryd.func72 rfl (by show 2 ≤ 78; decide) ?_
    rintro X hX
    have hn : X.n = 78 := hX
    unfold Tryd.f72
    dsimp only
    rw [entryB_0, entry2]
    repeat' first
     | with_reducible refine Rl.go (by constructor <;> decide) ?_
     | ((with_reducible first | refine hK _ ?_ | refine hK.1 ?_ | refine hK.2 ?_); clear hK K)
     | ((with_reducible refine condS hK (fun hg => ?_) fun hg => ?_) <;> clear hK K <;> (try simp only [hgW] at hg) <;> try (exfalso; omega))
     | ((first | ((with_reducible first | refine Rk.go k72_VsJRune (by constructor) ?_); intro K hK) | with_reducible refine Rr.go [] (by constructor) ?_ | (with_reducible refine guardP_split (fun hg => ?_) fun hg => ?_) <;> (try simp only [hg]) <;> (try simp only [hgW] at hg)) <;> simp -implicitDefEqProofs only [hu, mi6, sh6, low63, hi192 x h1, hn, go_sem, simprocAttr] <;> try (simp (disch := omega) only [wrW]; try simp -implicitDefEqProofs only [hu, mi6, sh6, low63, hi192 x h1, hn, go_sem, simprocAttr]))
     | with_reducible refine And.intro (by first | omega | (simp only [hgW]; omega)) ?_
     | (exfalso; omega)
  by_cases h2 : x < 65536
  · have e : (out ++ encB x).map u8 = out.map u8 ++ [.int .u8 ((224 + x / 4096 : Nat) : Int), .int .u8 ((128 + x / 64 % 64 : Nat) : Int), .int .u8 ((128 + x % 64 : Nat) : Int)] := by
      rw [List.map_append]; unfold encB; rw [if_neg (by omega), if_neg (by omega), if_pos h2]
      simp [u8, ofNat8 _ (show 224 + x / 4096 < 256 by omega), ofNat8 _ (show 128 + x / 64 % 64 < 256 by omega), ofNat8 _ (show 128 + x % 64 < 256 by omega)]
      omega
    rw [e]
    refine CallsB.intro Tryd.func72 rfl (by show 2 ≤ 78; decide) ?_
    rintro X hX
    have hn : X.n = 78 := hX
    unfold Tryd.f72
    dsimp only
    rw [entryB_0, entry2]
    repeat' first
     | with_reducible refine Rl.go (by constructor <;> decide) ?_
     | ((with_reducible first | refine hK _ ?_ | refine hK.1 ?_ | refine hK.2 ?_); clear hK K)
     | ((with_reducible refine condS hK (fun hg => ?_) fun hg => ?_) <;> clear hK K <;> (try simp only [hgW] at hg) <;> try (exfalso; omega))
     | ((first | ((with_reducible first | refine Rk.go k72_VsJRune (by constructor) ?_); intro K hK) | with_reducible refine Rr.go [] (by constructor) ?_ | (with_reducible refine guardP_split (fun hg => ?_) fun hg => ?_) <;> (try simp only [hg]) <;> (try simp only [hgW] at hg)) <;> simp -implicitDefEqProofs only [hu, mi6, mi12, sh6, sh12, low63, hi224 x h2, hn, go_sem, simprocAttr] <;> try (simp (disch := omega) only [wrW]; try simp -implicitDefEqProofs only [hu, mi6, mi12, sh6, sh12, low63, hi224 x h2, hn, go_sem, simprocAttr]))
     | with_reducible refine And.intro (by first | omega | (simp only [hgW]; omega)) ?_
     | (exfalso; omega)
  · have e : (out ++ encB x).map u8 = out.map u8 ++ [.int .u8 ((240 + x / 262144 : Nat) : Int), .int .u8 ((128 + x / 4096 % 64 : Nat) : Int), .int .u8 ((128 + x / 64 % 64 : Nat) : Int), .int .u8 ((128 + x % 64 : Nat) : Int)] := by
      rw [List.map_append]; unfold encB; rw [if_neg (by omega), if_neg (by omega), if_neg (by omega)]
      simp [u8, ofNat8 _ (show 240 + x / 262144 < 256 by omega), ofNat8 _ (show 128 + x / 4096 % 64 < 256 by omega), ofNat8 _ (show 128 + x / 64 % 64 < 256 by omega), ofNat8 _ (show 128 + x % 64 < 256 by omega)]
      omega
    rw [e]
    refine CallsB.intro Tryd.func72 rfl (by show 2 ≤ 78; decide) ?_
    rintro X hX
    have hn : X.n = 78 := hX
    unfold Tryd.f72
    dsimp only
    rw [entryB_0, entry2]
    repeat' first
     | with_reducible refine Rl.go (by constructor <;> decide) ?_
     | ((with_reducible first | refine hK _ ?_ | refine hK.1 ?_ | refine hK.2 ?_); clear hK K)
     | ((with_reducible refine condS hK (fun hg => ?_) fun hg => ?_) <;> clear hK K <;> (try simp only [hgW] at hg) <;> try (exfalso; omega))
     | ((first | ((with_reducible first | refine Rk.go k72_VsJRune (by constructor) ?_); intro K hK) | with_reducible refine Rr.go [] (by constructor) ?_ | (with_reducible refine guardP_split (fun hg => ?_) fun hg => ?_) <;> (try simp only [hg]) <;> (try simp only [hgW] at hg)) <;> simp -implicitDefEqProofs only [hu, mi6, mi12, mi18, sh6, sh12, sh18, low63, hi240 x hx, hn, go_sem, simprocAttr] <;> try (simp (disch := omega) only [wrW]; try simp -implicitDefEqProofs only [hu, mi6, mi12, mi18, sh6, sh12, sh18, low63, hi240 x hx, hn, go_sem, simprocAttr]))
     | with_reducible refine And.intro (by first | omega | (simp only [hgW]; omega)) ?_
     | (exfalso; omega)
def k62_VsJRune : List Nat := [0,1,4,7]
attribute [go_sem] k62_VsJRune
theorem f62_ok (out : List UInt8) (nb : Bool) (hl : out.length ≤ 1000000) (x : Nat) (hx : x < 1114112) (hs : ¬ (55296 ≤ x ∧ x < 57344)) :
    CallsB Tryd.prog 62 [.sl (some ((4, 0), 0)) nb 1 (out.map u8), .int .i32 (x : Int)] [] (.sl (some ((3, 0), 0)) false 1 ((out ++ encB x).map u8)) [] := by
  have hu := Go.IntWalk.u32_in (x : Int) (by omega)
  by_cases h1 : x < 128
  · have e : (out ++ encB x).map u8 = out.map u8 ++ [.int .u8 (x : Int)] := by
      rw [List.map_append]; unfold encB; rw [if_pos h1]
      simp [u8, ofNat8 _ (show x < 256 by omega)]
    rw [e]
    refine CallsB.intro Tryd.func62 rfl (by show 2 ≤ 16; decide) ?_
    rintro X hX
    have hn : X.n = 16 := hX
    unfold Tryd.f62
    dsimp only
    rw [entryB_0, entry2]
    repeat' first
     | with_reducible refine Rl.go (by constructor <;> decide) ?_
     | ((with_reducible first | refine hK _ ?_ | refine hK.1 ?_ | refine hK.2 ?_); clear hK K)
     | ((with_reducible refine condS hK (fun hg => ?_) fun hg => ?_) <;> clear hK K <;> (try simp only [hgW] at hg) <;> try (exfalso; omega))
     | ((first | ((with_reducible first | refine Rk.go k62_VsJRune (by constructor) ?_); intro K hK) | with_reducible refine Rr.go [] (by constructor) ?_ | (with_reducible refine guardP_split (fun hg => ?_) fun hg => ?_) <;> (try simp only [hg]) <;> (try simp only [hgW] at hg)) <;> simp -implicitDefEqProofs only [hu, hn, go_sem, simprocAttr] <;> try (simp (disch := omega) only [wrW]; try simp -implicitDefEqProofs only [hu, hn, go_sem, simprocAttr]))
     | with_reducible refine And.intro (by first | omega | (simp only [hgW]; omega)) ?_
     | (exfalso; omega)
  · have c72 := f72_ok out nb hl x (by omega) hx hs
    refine CallsB.intro Tryd.func62 rfl (by show 2 ≤ 16; decide) ?_
    rintro X hX
    have hn : X.n = 16 := hX
    unfold Tryd.f62
    dsimp only
    rw [entryB_0, entry2]
    repeat' first
     | with_reducible refine Rl.go (by constructor <;> decide) ?_
     | ((with_reducible first | refine hK _ ?_ | refine hK.1 ?_ | refine hK.2 ?_); clear hK K)
     | ((with_reducible refine condS hK (fun hg => ?_) fun hg => ?_) <;> clear hK K <;> (try simp only [hgW] at hg) <;> try (exfalso; omega))
     | ((with_reducible refine callE_BO c72 ?_); simp -implicitDefEqProofs only [eqOk_true, hu, hn, go_sem, simprocAttr]; (skip; try (simp (disch := omega) only [wrW]; try simp -implicitDefEqProofs only [hu, hn, go_sem, simprocAttr])); fail_if_success (with_reducible refine eqOk_mk ?_))
     | ((first | ((with_reducible first | refine Rk.go k62_VsJRune (by constructor) ?_); intro K hK) | with_reducible refine Rr.go [] (by constructor) ?_ | (with_reducible refine guardP_split (fun hg => ?_) fun hg => ?_) <;> (try simp only [hg]) <;> (try simp only [hgW] at hg)) <;> simp -implicitDefEqProofs only [hu, hn, go_sem, simprocAttr] <;> try (simp (disch := omega) only [wrW]; try simp -implicitDefEqProofs only [hu, hn, go_sem, simprocAttr]))
     | with_reducible refine And.intro (by first | omega | (simp only [hgW]; omega)) ?_
     | (exfalso; omega)
theorem i32in (n : Nat) (h : n < 2147483648) : IntKind.i32.wrap (n : Int) = (n : Int) := Go.IntWalk.i32_in _ (by omega)
theorem ofInt32 (a : Nat) (ha : a < 4294967296) : (BitVec.ofInt 32 (a : Int)).toNat = a := ofInt_u32 a ha
theorem bor32 (a m n : Nat) (hm : m < 2 ^ n) (h : a * 2 ^ n + m < 2147483648) : bitop .or .i32 ((a * 2 ^ n : Nat) : Int) (m : Int) = ((a * 2 ^ n + m : Nat) : Int) := by
  unfold bitop
  simp only
  have hb : IntKind.i32.bits = 32 := rfl
  rw [hb, BitVec.toNat_or, ofInt32 _ (by omega), ofInt32 _ (by omega), or_shift a m n hm]
  exact i32in _ h
theorem firstT_cs (b : Nat) : Go.Lib.firstT b = 240 ∨ Go.Lib.firstT b = 241 ∨ Go.Lib.firstT b = 2 ∨ Go.Lib.firstT b = 19 ∨ Go.Lib.firstT b = 3 ∨ Go.Lib.firstT b = 35 ∨ Go.Lib.firstT b = 52 ∨ Go.Lib.firstT b = 4 ∨ Go.Lib.firstT b = 68 := by
  unfold Go.Lib.firstT
  repeat' split
  all_goals simp
theorem lenF : firstN.length = 256 := rfl
theorem lenA : acceptN.length = 32 := rfl
set_option maxRecDepth 100000 in
theorem firstN_eq : ∀ X : Fin 256, firstN.getD X.val default = Go.Lib.firstT X.val := by decide
theorem and7 (c : Nat) (h : c < 256) : bitop .and .u8 (c : Int) 7 = ((c % 8 : Nat) : Int) := band8 c 3 h (by decide)
theorem and15 (c : Nat) (h : c < 256) : bitop .and .u8 (c : Int) 15 = ((c % 16 : Nat) : Int) := band8 c 4 h (by decide)
theorem and31 (c : Nat) (h : c < 256) : bitop .and .u8 (c : Int) 31 = ((c % 32 : Nat) : Int) := band8 c 5 h (by decide)
theorem and63 (c : Nat) (h : c < 256) : bitop .and .u8 (c : Int) 63 = ((c % 64 : Nat) : Int) := band8 c 6 h (by decide)
theorem or_i32 (a m k n : Nat) (hk : k = 2 ^ n) (hm : m < k) (h : a * k + m < 2147483648) : bitop .or .i32 ((a : Int) * (k : Int)) (m : Int) = ((a * k + m : Nat) : Int) := by
  subst hk
  rw [← Int.natCast_mul]
  exact bor32 a m n hm h
theorem mi31 : min 31 IntKind.i32.bits = 31 := rfl
theorem mb4 : min 4 IntKind.u8.bits = 4 := rfl
set_option maxRecDepth 100000 in
theorem andn32 : ∀ x : Fin 256, bitop .andNot .i32 ((x.val : Nat) : Int) (-1) = 0 := by decide
def k73_VsJRune : List Nat := [0,2,3,4,5,6,7,8,9,10,11,12,16,24,47,60,62,79,81,103]
attribute [go_sem] k73_VsJRune
theorem f73_ok (nb : Bool) (l : List UInt8) (h0 : l ≠ []) (hl : l.length ≤ 100000) (h128 : 128 ≤ (l.getD 0 default).toNat) : CallsP Tryd.prog 73 [.sl none nb 1 (l.map u8)] (.tup [.int .i32 ((Go.Lib.decodeL l).1 : Int), .int .i64 ((Go.Lib.decodeL l).2 : Int)]) := by
  have hpos : 0 < l.length := List.length_pos_iff.2 h0
  rw [Go.Lib.decodeL_N]
  have d0 : l.getD 0 0 = l.getD 0 default := rfl
  have d1 : l.getD 1 0 = l.getD 1 default := rfl
  have d2 : l.getD 2 0 = l.getD 2 default := rfl
  have d3 : l.getD 3 0 = l.getD 3 default := rfl
  rw [d0, d1, d2, d3]
  obtain ⟨x0, hx0⟩ : ∃ x, l.getD 0 default = x := ⟨_, rfl⟩
  obtain ⟨x1, hx1⟩ : ∃ x, l.getD 1 default = x := ⟨_, rfl⟩
  obtain ⟨x2, hx2⟩ : ∃ x, l.getD 2 default = x := ⟨_, rfl⟩
  obtain ⟨x3, hx3⟩ : ∃ x, l.getD 3 default = x := ⟨_, rfl⟩
  rw [hx0] at h128
  rw [hx0, hx1, hx2, hx3]
  have l0 := x0.toNat_lt
  have l1 := x1.toNat_lt
  have l2 := x2.toNat_lt
  have l3 := x3.toNat_lt
  have hF := firstN_eq ⟨x0.toNat, l0⟩
  simp only at hF
  have hres : Go.Lib.firstT x0.toNat < 240 → Go.Lib.slowN l.length x0.toNat x1.toNat x2.toNat x3.toNat (Go.Lib.firstT x0.toNat % 8) (Go.Lib.accLo (Go.Lib.firstT x0.toNat / 16)) (Go.Lib.accHi (Go.Lib.firstT x0.toNat / 16)) = Go.Lib.decodeN l.length x0.toNat x1.toNat x2.toNat x3.toNat :=
    fun h => Go.Lib.slow_eq _ _ _ _ _ (by omega) (by omega) (by omega) (by omega) h
  have hbad := Go.Lib.bad_eq l.length x0.toNat x1.toNat x2.toNat x3.toNat (by omega)
  generalize Go.Lib.decodeN l.length x0.toNat x1.toNat x2.toNat x3.toNat = D at *
  obtain ⟨u, v⟩ := D
  have a7 := and31 x0.toNat l0
  have a15 := and15 x0.toNat l0
  have a3 := and7 x0.toNat l0
  have b1 := and63 x1.toNat l1
  have b2 := and63 x2.toNat l2
  have b3 := and63 x3.toNat l3
  have p2 := or_i32 (x0.toNat % 32) (x1.toNat % 64) 64 6 rfl (by omega) (by omega)
  have p3 := or_i32 (x0.toNat % 16) (x1.toNat % 64 * 64) 4096 12 rfl (by omega) (by omega)
  have q3 := or_i32 (x0.toNat % 16 * 64 + x1.toNat % 64) (x2.toNat % 64) 64 6 rfl (by omega) (by omega)
  have p4 := or_i32 (x0.toNat % 8) (x1.toNat % 64 * 4096) 262144 18 rfl (by omega) (by omega)
  have q4 := or_i32 (x0.toNat % 8 * 64 + x1.toNat % 64) (x2.toNat % 64 * 64) 4096 12 rfl (by omega) (by omega)
  have r4 := or_i32 (x0.toNat % 8 * 4096 + x1.toNat % 64 * 64 + x2.toNat % 64) (x3.toNat % 64) 64 6 rfl (by omega) (by omega)
  have q3e : ((x0.toNat % 16 * 64 + x1.toNat % 64 : Nat) : Int) * ((64 : Nat) : Int) = ((x0.toNat % 16 * 4096 + x1.toNat % 64 * 64 : Nat) : Int) := by omega
  have q4e : ((x0.toNat % 8 * 64 + x1.toNat % 64 : Nat) : Int) * ((4096 : Nat) : Int) = ((x0.toNat % 8 * 262144 + x1.toNat % 64 * 4096 : Nat) : Int) := by omega
  have r4e : ((x0.toNat % 8 * 4096 + x1.toNat % 64 * 64 + x2.toNat % 64 : Nat) : Int) * ((64 : Nat) : Int) = (((x0.toNat % 8 * 64 + x1.toNat % 64) * 4096 + x2.toNat % 64 * 64 : Nat) : Int) := by omega
  rw [q3e] at q3
  rw [q4e] at q4
  rw [r4e] at r4
  have hm1 : ((x1.toNat % 64 * 64 : Nat) : Int) = ((x1.toNat % 64 : Nat) : Int) * 64 := by omega
  have hm2 : ((x1.toNat % 64 * 4096 : Nat) : Int) = ((x1.toNat % 64 : Nat) : Int) * 4096 := by omega
  have hm3 : ((x2.toNat % 64 * 64 : Nat) : Int) = ((x2.toNat % 64 : Nat) : Int) * 64 := by omega
  rw [hm1] at p3
  rw [hm2] at p4
  rw [hm3] at q4
  simp only [Int.cast_ofNat_Int] at p2 p3 q3 p4 q4 r4
  clear q3e q4e r4e hm1 hm2 hm3
  have hcs := firstT_cs x0.toNat
  have hn240 : Go.Lib.firstT x0.toNat ≠ 240 := by
    unfold Go.Lib.firstT
    rw [if_neg (by omega)]
    (repeat' split) <;> decide
  obtain ⟨Y, hY⟩ : ∃ Y, Go.Lib.firstT x0.toNat = Y := ⟨_, rfl⟩
  rw [hY] at hF hres hcs hn240 hbad
  have hall : Y = 241 ∨ Y = 2 ∨ Y = 19 ∨ Y = 3 ∨ Y = 35 ∨ Y = 52 ∨ Y = 4 ∨ Y = 68 := by omega
  clear hcs hn240 hY
  rcases hall with rfl | rfl | rfl | rfl | rfl | rfl | rfl | rfl
  · obtain ⟨rfl, rfl⟩ := Prod.mk.inj (hbad rfl)
    have e31 : IntKind.i32.wrap 517543559168 = -2147483648 := by decide
    have f31 : Int.fdiv (-2147483648) 2147483648 = -1 := by decide
    have g31 : bitop .and .i32 65533 (-1) = 65533 := by decide
    have k31 := andn32 ⟨x0.toNat, l0⟩
    simp only at k31
    have l31 : bitop .or .i32 0 65533 = 65533 := by decide
    refine CallsP.intro Tryd.func73 rfl (by show 1 ≤ 122; decide) ?_
    rintro X hX
    have hn : X.n = 122 := hX
    unfold Tryd.f73
    dsimp only
    rw [entry1]
    repeat' first
     | with_reducible refine Rl.go (by constructor <;> decide) ?_
     | ((with_reducible first | refine hK _ ?_ | refine hK.1 ?_ | refine hK.2 ?_); clear hK K)
     | ((with_reducible refine condS hK (fun hg => ?_) fun hg => ?_) <;> clear hK K <;> (try simp only [hgW] at hg) <;> try (exfalso; omega))
     | ((first | ((with_reducible first | refine Rk.go k73_VsJRune (by constructor) ?_); intro K hK) | with_reducible refine Rr.go [] (by constructor) ?_ | (with_reducible refine guardP_split (fun hg => ?_) fun hg => ?_) <;> (try simp only [hg]) <;> (try simp only [hgW] at hg)) <;> simp -implicitDefEqProofs only [u8, n8, tab0, tab1, hx0, hF, lenF, lenA, mi31, e31, f31, g31, k31, l31, hn, go_sem, simprocAttr] <;> try (simp (disch := omega) only [wrW, Go.IntWalk.i32_in]; try simp -implicitDefEqProofs only [u8, n8, tab0, tab1, hx0, hF, lenF, lenA, mi31, e31, f31, g31, k31, l31, hn, go_sem, simprocAttr]))
     | with_reducible refine And.intro (by first | omega | (simp only [hgW]; omega)) ?_
     | (exfalso; omega)
  · replace hres := hres (by decide)
    unfold Go.Lib.slowN at hres
    simp only [Nat.reduceMod, Nat.reduceDiv, Go.Lib.accLo, Go.Lib.accHi, if_true, Nat.reduceEqDiff, if_false, Nat.reduceLeDiff, Nat.le_refl] at hres
    have ha7 : bitop .and .u8 2 7 = 2 := by decide
    have ha4 : Int.fdiv 2 16 = 0 := by decide
    have hacc : List.take 2 acceptN = [128, 191] := rfl
    refine CallsP.intro Tryd.func73 rfl (by show 1 ≤ 122; decide) ?_
    rintro X hX
    have hn : X.n = 122 := hX
    unfold Tryd.f73
    dsimp only
    rw [entry1]
    repeat' first
     | with_reducible refine Rl.go (by constructor <;> decide) ?_
     | ((with_reducible first | refine hK _ ?_ | refine hK.1 ?_ | refine hK.2 ?_); clear hK K)
     | ((with_reducible refine condS hK (fun hg => ?_) fun hg => ?_) <;> clear hK K <;> (try simp only [hgW] at hg) <;> try (exfalso; omega))
     | ((first | ((with_reducible first | refine Rk.go k73_VsJRune (by constructor) ?_); intro K hK) | with_reducible refine Rr.go [] (by constructor) ?_ | (with_reducible refine guardP_split (fun hg => ?_) fun hg => ?_) <;> (try simp only [hg]) <;> (try simp only [hgW] at hg)) <;> simp -implicitDefEqProofs only [u8, n8, tab0, tab1, hx0, hx1, hx2, hx3, hF, lenF, lenA, hacc, ha7, ha4, mb4, mi6, mi12, mi18, a7, a15, a3, b1, b2, b3, p2, p3, q3, p4, q4, r4, hn, go_sem, simprocAttr] <;> try (simp (disch := omega) only [wrW, Go.IntWalk.i32_in]; try simp -implicitDefEqProofs only [u8, n8, tab0, tab1, hx0, hx1, hx2, hx3, hF, lenF, lenA, hacc, ha7, ha4, mb4, mi6, mi12, mi18, a7, a15, a3, b1, b2, b3, p2, p3, q3, p4, q4, r4, hn, go_sem, simprocAttr]))
     | with_reducible refine And.intro (by first | omega | (simp only [hgW]; omega)) ?_
     | (exfalso; omega)
    all_goals (repeat' split at hres) <;> simp only [Prod.mk.injEq] at hres <;> simp only [AV.tup.injEq, List.cons.injEq, AV.int.injEq, true_and, and_true] <;> omega
  · replace hres := hres (by decide)
    unfold Go.Lib.slowN at hres
    simp only [Nat.reduceMod, Nat.reduceDiv, Go.Lib.accLo, Go.Lib.accHi, if_true, Nat.reduceEqDiff, if_false, Nat.reduceLeDiff, Nat.le_refl] at hres
    have ha7 : bitop .and .u8 19 7 = 3 := by decide
    have ha4 : Int.fdiv 19 16 = 1 := by decide
    have hacc : List.take 2 (List.drop 2 acceptN) = [160, 191] := rfl
    refine CallsP.intro Tryd.func73 rfl (by show 1 ≤ 122; decide) ?_
    rintro X hX
    have hn : X.n = 122 := hX
    unfold Tryd.f73
    dsimp only
    rw [entry1]
    repeat' first
     | with_reducible refine Rl.go (by constructor <;> decide) ?_
     | ((with_reducible first | refine hK _ ?_ | refine hK.1 ?_ | refine hK.2 ?_); clear hK K)
     | ((with_reducible refine condS hK (fun hg => ?_) fun hg => ?_) <;> clear hK K <;> (try simp only [hgW] at hg) <;> try (exfalso; omega))
     | ((first | ((with_reducible first | refine Rk.go k73_VsJRune (by constructor) ?_); intro K hK) | with_reducible refine Rr.go [] (by constructor) ?_ | (with_reducible refine guardP_split (fun hg => ?_) fun hg => ?_) <;> (try simp only [hg]) <;> (try simp only [hgW] at hg)) <;> simp -implicitDefEqProofs only [u8, n8, tab0, tab1, hx0, hx1, hx2, hx3, hF, lenF, lenA, hacc, ha7, ha4, mb4, mi6, mi12, mi18, a7, a15, a3, b1, b2, b3, p2, p3, q3, p4, q4, r4, hn, go_sem, simprocAttr] <;> try (simp (disch := omega) only [wrW, Go.IntWalk.i32_in]; try simp -implicitDefEqProofs only [u8, n8, tab0, tab1, hx0, hx1, hx2, hx3, hF, lenF, lenA, hacc, ha7, ha4, mb4, mi6, mi12, mi18, a7, a15, a3, b1, b2, b3, p2, p3, q3, p4, q4, r4, hn, go_sem, simprocAttr]))
     | with_reducible refine And.intro (by first | omega | (simp only [hgW]; omega)) ?_
     | (exfalso; omega)
    all_goals (repeat' split at hres) <;> simp only [Prod.mk.injEq] at hres <;> simp only [AV.tup.injEq, List.cons.injEq, AV.int.injEq, true_and, and_true] <;> omega
  · replace hres := hres (by decide)
    unfold Go.Lib.slowN at hres
    simp only [Nat.reduceMod, Nat.reduceDiv, Go.Lib.accLo, Go.Lib.accHi, if_true, Nat.reduceEqDiff, if_false, Nat.reduceLeDiff, Nat.le_refl] at hres
    have ha7 : bitop .and .u8 3 7 = 3 := by decide
    have ha4 : Int.fdiv 3 16 = 0 := by decide
    have hacc : List.take 2 acceptN = [128, 191] := rfl
    refine CallsP.intro Tryd.func73 rfl (by show 1 ≤ 122; decide) ?_
    rintro X hX
    have hn : X.n = 122 := hX
    unfold Tryd.f73
    dsimp only
    rw [entry1]
    repeat' first
     | with_reducible refine Rl.go (by constructor <;> decide) ?_
     | ((with_reducible first | refine hK _ ?_ | refine hK.1 ?_ | refine hK.2 ?_); clear hK K)
     | ((with_reducible refine condS hK (fun hg => ?_) fun hg => ?_) <;> clear hK K <;> (try simp only [hgW] at hg) <;> try (exfalso; omega))
     | ((first | ((with_reducible first | refine Rk.go k73_VsJRune (by constructor) ?_); intro K hK) | with_reducible refine Rr.go [] (by constructor) ?_ | (with_reducible refine guardP_split (fun hg => ?_) fun hg => ?_) <;> (try simp only [hg]) <;> (try simp only [hgW] at hg)) <;> simp -implicitDefEqProofs only [u8, n8, tab0, tab1, hx0, hx1, hx2, hx3, hF, lenF, lenA, hacc, ha7, ha4, mb4, mi6, mi12, mi18, a7, a15, a3, b1, b2, b3, p2, p3, q3, p4, q4, r4, hn, go_sem, simprocAttr] <;> try (simp (disch := omega) only [wrW, Go.IntWalk.i32_in]; try simp -implicitDefEqProofs only [u8, n8, tab0, tab1, hx0, hx1, hx2, hx3, hF, lenF, lenA, hacc, ha7, ha4, mb4, mi6, mi12, mi18, a7, a15, a3, b1, b2, b3, p2, p3, q3, p4, q4, r4, hn, go_sem, simprocAttr]))
     | with_reducible refine And.intro (by first | omega | (simp only [hgW]; omega)) ?_
     | (exfalso; omega)
    all_goals (repeat' split at hres) <;> simp only [Prod.mk.injEq] at hres <;> simp only [AV.tup.injEq, List.cons.injEq, AV.int.injEq, true_and, and_true] <;> omega
  · replace hres := hres (by decide)
    unfold Go.Lib.slowN at hres
    simp only [Nat.reduceMod, Nat.reduceDiv, Go.Lib.accLo, Go.Lib.accHi, if_true, Nat.reduceEqDiff, if_false, Nat.reduceLeDiff, Nat.le_refl] at hres
    have ha7 : bitop .and .u8 35 7 = 3 := by decide
    have ha4 : Int.fdiv 35 16 = 2 := by decide
    have hacc : List.take 2 (List.drop 4 acceptN) = [128, 159] := rfl
    refine CallsP.intro Tryd.func73 rfl (by show 1 ≤ 122; decide) ?_
    rintro X hX
    have hn : X.n = 122 := hX
    unfold Tryd.f73
    dsimp only
    rw [entry1]
    repeat' first
     | with_reducible refine Rl.go (by constructor <;> decide) ?_
     | ((with_reducible first | refine hK _ ?_ | refine hK.1 ?_ | refine hK.2 ?_); clear hK K)
     | ((with_reducible refine condS hK (fun hg => ?_) fun hg => ?_) <;> clear hK K <;> (try simp only [hgW] at hg) <;> try (exfalso; omega))
     | ((first | ((with_reducible first | refine Rk.go k73_VsJRune (by constructor) ?_); intro K hK) | with_reducible refine Rr.go [] (by constructor) ?_ | (with_reducible refine guardP_split (fun hg => ?_) fun hg => ?_) <;> (try simp only [hg]) <;> (try simp only [hgW] at hg)) <;> simp -implicitDefEqProofs only [u8, n8, tab0, tab1, hx0, hx1, hx2, hx3, hF, lenF, lenA, hacc, ha7, ha4, mb4, mi6, mi12, mi18, a7, a15, a3, b1, b2, b3, p2, p3, q3, p4, q4, r4, hn, go_sem, simprocAttr] <;> try (simp (disch := omega) only [wrW, Go.IntWalk.i32_in]; try simp -implicitDefEqProofs only [u8, n8, tab0, tab1, hx0, hx1, hx2, hx3, hF, lenF, lenA, hacc, ha7, ha4, mb4, mi6, mi12, mi18, a7, a15, a3, b1, b2, b3, p2, p3, q3, p4, q4, r4, hn, go_sem, simprocAttr]))
     | with_reducible refine And.intro (by first | omega | (simp only [hgW]; omega)) ?_
     | (exfalso; omega)
    all_goals (repeat' split at hres) <;> simp only [Prod.mk.injEq] at hres <;> simp only [AV.tup.injEq, List.cons.injEq, AV.int.injEq, true_and, and_true] <;> omega
  · replace hres := hres (by decide)
    unfold Go.Lib.slowN at hres
    simp only [Nat.reduceMod, Nat.reduceDiv, Go.Lib.accLo, Go.Lib.accHi, if_true, Nat.reduceEqDiff, if_false, Nat.reduceLeDiff, Nat.le_refl] at hres
    have ha7 : bitop .and .u8 52 7 = 4 := by decide
    have ha4 : Int.fdiv 52 16 = 3 := by decide
    have hacc : List.take 2 (List.drop 6 acceptN) = [144, 191] := rfl
    refine CallsP.intro Tryd.func73 rfl (by show 1 ≤ 122; decide) ?_
    rintro X hX
    have hn : X.n = 122 := hX
    unfold Tryd.f73
    dsimp only
    rw [entry1]
    repeat' first
     | with_reducible refine Rl.go (by constructor <;> decide) ?_
     | ((with_reducible first | refine hK _ ?_ | refine hK.1 ?_ | refine hK.2 ?_); clear hK K)
     | ((with_reducible refine condS hK (fun hg => ?_) fun hg => ?_) <;> clear hK K <;> (try simp only [hgW] at hg) <;> try (exfalso; omega))
     | ((first | ((with_reducible first | refine Rk.go k73_VsJRune (by constructor) ?_); intro K hK) | with_reducible refine Rr.go [] (by constructor) ?_ | (with_reducible refine guardP_split (fun hg => ?_) fun hg => ?_) <;> (try simp only [hg]) <;> (try simp only [hgW] at hg)) <;> simp -implicitDefEqProofs only [u8, n8, tab0, tab1, hx0, hx1, hx2, hx3, hF, lenF, lenA, hacc, ha7, ha4, mb4, mi6, mi12, mi18, a7, a15, a3, b1, b2, b3, p2, p3, q3, p4, q4, r4, hn, go_sem, simprocAttr] <;> try (simp (disch := omega) only [wrW, Go.IntWalk.i32_in]; try simp -implicitDefEqProofs only [u8, n8, tab0, tab1, hx0, hx1, hx2, hx3, hF, lenF, lenA, hacc, ha7, ha4, mb4, mi6, mi12, mi18, a7, a15, a3, b1, b2, b3, p2, p3, q3, p4, q4, r4, hn, go_sem, simprocAttr]))
     | with_reducible refine And.intro (by first | omega | (simp only [hgW]; omega)) ?_
     | (exfalso; omega)
    all_goals (repeat' split at hres) <;> simp only [Prod.mk.injEq] at hres <;> simp only [AV.tup.injEq, List.cons.injEq, AV.int.injEq, true_and, and_true] <;> omega
  · replace hres := hres (by decide)
    unfold Go.Lib.slowN at hres
    simp only [Nat.reduceMod, Nat.reduceDiv, Go.Lib.accLo, Go.Lib.accHi, if_true, Nat.reduceEqDiff, if_false, Nat.reduceLeDiff, Nat.le_refl] at hres
    have ha7 : bitop .and .u8 4 7 = 4 := by decide
    have ha4 : Int.fdiv 4 16 = 0 := by decide
    have hacc : List.take 2 acceptN = [128, 191] := rfl
    refine CallsP.intro Tryd.func73 rfl (by show 1 ≤ 122; decide) ?_
    rintro X hX
    have hn : X.n = 122 := hX
    unfold Tryd.f73
    dsimp only
    rw [entry1]
    repeat' first
     | with_reducible refine Rl.go (by constructor <;> decide) ?_
     | ((with_reducible first | refine hK _ ?_ | refine hK.1 ?_ | refine hK.2 ?_); clear hK K)
     | ((with_reducible refine condS hK (fun hg => ?_) fun hg => ?_) <;> clear hK K <;> (try simp only [hgW] at hg) <;> try (exfalso; omega))
     | ((first | ((with_reducible first | refine Rk.go k73_VsJRune (by constructor) ?_); intro K hK) | with_reducible refine Rr.go [] (by constructor) ?_ | (with_reducible refine guardP_split (fun hg => ?_) fun hg => ?_) <;> (try simp only [hg]) <;> (try simp only [hgW] at hg)) <;> simp -implicitDefEqProofs only [u8, n8, tab0, tab1, hx0, hx1, hx2, hx3, hF, lenF, lenA, hacc, ha7, ha4, mb4, mi6, mi12, mi18, a7, a15, a3, b1, b2, b3, p2, p3, q3, p4, q4, r4, hn, go_sem, simprocAttr] <;> try (simp (disch := omega) only [wrW, Go.IntWalk.i32_in]; try simp -implicitDefEqProofs only [u8, n8, tab0, tab1, hx0, hx1, hx2, hx3, hF, lenF, lenA, hacc, ha7, ha4, mb4, mi6, mi12, mi18, a7, a15, a3, b1, b2, b3, p2, p3, q3, p4, q4, r4, hn, go_sem, simprocAttr]))
     | with_reducible refine And.intro (by first | omega | (simp only [hgW]; omega)) ?_
     | (exfalso; omega)
    all_goals (repeat' split at hres) <;> simp only [Prod.mk.injEq] at hres <;> simp only [AV.tup.injEq, List.cons.injEq, AV.int.injEq, true_and, and_true] <;> omega
  · replace hres := hres (by decide)
    unfold Go.Lib.slowN at hres
    simp only [Nat.reduceMod, Nat.reduceDiv, Go.Lib.accLo, Go.Lib.accHi, if_true, Nat.reduceEqDiff, if_false, Nat.reduceLeDiff, Nat.le_refl] at hres
    have ha7 : bitop .and .u8 68 7 = 4 := by decide
    have ha4 : Int.fdiv 68 16 = 4 := by decide
    have hacc : List.take 2 (List.drop 8 acceptN) = [128, 143] := rfl
    refine CallsP.intro Tryd.func73 rfl (by show 1 ≤ 122; decide) ?_
    rintro X hX
    have hn : X.n = 122 := hX
    unfold Tryd.f73
    dsimp only
    rw [entry1]
    repeat' first
     | with_reducible refine Rl.go (by constructor <;> decide) ?_
     | ((with_reducible first | refine hK _ ?_ | refine hK.1 ?_ | refine hK.2 ?_); clear hK K)
     | ((with_reducible refine condS hK (fun hg => ?_) fun hg => ?_) <;> clear hK K <;> (try simp only [hgW] at hg) <;> try (exfalso; omega))
     | ((first | ((with_reducible first | refine Rk.go k73_VsJRune (by constructor) ?_); intro K hK) | with_reducible refine Rr.go [] (by constructor) ?_ | (with_reducible refine guardP_split (fun hg => ?_) fun hg => ?_) <;> (try simp only [hg]) <;> (try simp only [hgW] at hg)) <;> simp -implicitDefEqProofs only [u8, n8, tab0, tab1, hx0, hx1, hx2, hx3, hF, lenF, lenA, hacc, ha7, ha4, mb4, mi6, mi12, mi18, a7, a15, a3, b1, b2, b3, p2, p3, q3, p4, q4, r4, hn, go_sem, simprocAttr] <;> try (simp (disch := omega) only [wrW, Go.IntWalk.i32_in]; try simp -implicitDefEqProofs only [u8, n8, tab0, tab1, hx0, hx1, hx2, hx3, hF, lenF, lenA, hacc, ha7, ha4, mb4, mi6, mi12, mi18, a7, a15, a3, b1, b2, b3, p2, p3, q3, p4, q4, r4, hn, go_sem, simprocAttr]))
     | with_reducible refine And.intro (by first | omega | (simp only [hgW]; omega)) ?_
     | (exfalso; omega)
    all_goals (repeat' split at hres) <;> simp only [Prod.mk.injEq] at hres <;> simp only [AV.tup.injEq, List.cons.injEq, AV.int.injEq, true_and, and_true] <;> omega
def k63_VsJRune : List Nat := [0,2,3,5,6,7,8,9,13]
attribute [go_sem] k63_VsJRune
theorem f63_ok (nb : Bool) (l : List UInt8) (h0 : l ≠ []) (hl : l.length ≤ 100000) : CallsP Tryd.prog 63 [.sl none nb 1 (l.map u8)] (.tup [.int .i32 ((Go.Lib.decodeL l).1 : Int), .int .i64 ((Go.Lib.decodeL l).2 : Int)]) := by
  have hpos : 0 < l.length := List.length_pos_iff.2 h0
  have l0 := (l.getD 0 default).toNat_lt
  by_cases h : (l.getD 0 default).toNat < 128
  · have e : Go.Lib.decodeL l = ((l.getD 0 default).toNat, 1) := by
      rw [Go.Lib.decodeL_N]
      exact Go.Lib.decodeN_ascii _ _ _ _ _ h
    rw [e]
    refine CallsP.intro Tryd.func63 rfl (by show 1 ≤ 22; decide) ?_
    rintro X hX
    have hn : X.n = 22 := hX
    unfold Tryd.f63
    dsimp only
    rw [entry1]
    repeat' first
     | with_reducible (first | refine Rl.go (by constructor <;> decide) ?_ | refine AWP.loopT 1 ?_ | refine AWP.unroll 1 ?_)
     | ((with_reducible first | refine hK _ ?_ | refine hK.1 ?_ | refine hK.2 ?_); clear hK K)
     | ((with_reducible refine condS hK (fun hg => ?_) fun hg => ?_) <;> clear hK K <;> (try simp only [hgW] at hg) <;> try (exfalso; omega))
     | ((first | ((with_reducible first | refine Rk.go k63_VsJRune (by constructor) ?_); intro K hK) | with_reducible refine Rr.go [] (by constructor) ?_ | (with_reducible refine guardP_split (fun hg => ?_) fun hg => ?_) <;> (try simp only [hg]) <;> (try simp only [hgW] at hg)) <;> simp -implicitDefEqProofs only [u8, hn, go_sem, simprocAttr] <;> try (simp (disch := omega) only [wrW, Go.IntWalk.i32_in]; try simp -implicitDefEqProofs only [u8, hn, go_sem, simprocAttr]))
     | with_reducible refine And.intro (by first | omega | (simp only [hgW]; omega)) ?_
     | (exfalso; omega)
  · have c73 := f73_ok nb l h0 hl (by omega)
    generalize Go.Lib.decodeL l = D at *
    obtain ⟨u, v⟩ := D
    refine CallsP.intro Tryd.func63 rfl (by show 1 ≤ 22; decide) ?_
    rintro X hX
    have hn : X.n = 22 := hX
    unfold Tryd.f63
    dsimp only
    rw [entry1]
    repeat' first
     | with_reducible (first | refine Rl.go (by constructor <;> decide) ?_ | refine AWP.loopT 1 ?_ | refine AWP.unroll 1 ?_)
     | ((with_reducible first | refine hK _ ?_ | refine hK.1 ?_ | refine hK.2 ?_); clear hK K)
     | ((with_reducible refine condS hK (fun hg => ?_) fun hg => ?_) <;> clear hK K <;> (try simp only [hgW] at hg) <;> try (exfalso; omega))
     | ((first | ((with_reducible first | refine Rk.go k63_VsJRune (by constructor) ?_); intro K hK) | with_reducible refine Rr.go [] (by constructor) ?_ | (with_reducible refine guardP_split (fun hg => ?_) fun hg => ?_) <;> (try simp only [hg]) <;> (try simp only [hgW] at hg) | refine Rc.go c73 (by constructor) ?_) <;> simp -implicitDefEqProofs only [u8, hn, go_sem, simprocAttr] <;> try (simp (disch := omega) only [wrW, Go.IntWalk.i32_in]; try simp -implicitDefEqProofs only [u8, hn, go_sem, simprocAttr]))
     | with_reducible refine And.intro (by first | omega | (simp only [hgW]; omega)) ?_
     | (exfalso; omega)
end Go.Proofs.YtfemncfhiihckaaDoor
