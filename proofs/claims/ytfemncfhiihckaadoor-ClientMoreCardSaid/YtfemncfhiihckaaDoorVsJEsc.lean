/- What the reader's escapes come to. -/
import Derived.Test.YtfemncfhiihckaaDoorVsJRune
import Derived.Test.YtfemncfhiihckaaDoorVsJNum
open Go Go.VS
namespace Go.Proofs.YtfemncfhiihckaaDoor
set_option linter.unusedVariables false
set_option linter.unusedSimpArgs false
set_option maxRecDepth 20000
set_option maxHeartbeats 4000000
/-- A digit of base sixteen. -/
def hexV (c : UInt8) : Option Nat :=
  if 48 ≤ c.toNat ∧ c.toNat ≤ 57 then some (c.toNat - 48)
  else if 97 ≤ c.toNat ∧ c.toNat ≤ 102 then some (c.toNat - 87)
  else if 65 ≤ c.toNat ∧ c.toNat ≤ 70 then some (c.toNat - 55)
  else none
theorem hexV_lt {c : UInt8} {v : Nat} (h : hexV c = some v) : v < 16 := by
  unfold hexV at h
  (repeat' split at h) <;> cases h <;> omega
/-- So many digits, one behind the other. -/
def hexN : List UInt8 → Nat → Option Nat
  | [], x => some x
  | c :: l, x => (hexV c).bind fun v => hexN l (x * 16 + v)
theorem hexN_lt : ∀ (l : List UInt8) (x y k : Nat), hexN l x = some y → x < 16 ^ k → y < 16 ^ (k + l.length)
  | [], x, y, k, h, hx => by cases h; exact hx
  | c :: l, x, y, k, h, hx => by
    unfold hexN at h
    obtain ⟨v, hv, h⟩ := Option.bind_eq_some_iff.1 h
    have hv16 := hexV_lt hv
    have := hexN_lt l _ y (k + 1) h (by rw [Nat.pow_succ]; omega)
    rw [List.length_cons, show k + (l.length + 1) = k + 1 + l.length by omega]
    exact this
/-- Four digits at a place. -/
def unitP (b : List UInt8) (i : Nat) : Option Nat := if i + 4 ≤ b.length then hexN ((b.drop i).take 4) 0 else none
theorem unitP_lt {b : List UInt8} {i x : Nat} (h : unitP b i = some x) : x < 65536 ∧ i + 4 ≤ b.length := by
  unfold unitP at h
  split at h
  · rename_i hl
    have := hexN_lt _ _ _ 0 h (by decide)
    rw [List.length_take, List.length_drop, Nat.min_eq_left (by omega)] at this
    exact ⟨this, hl⟩
  · cases h
def unitS (s : RJ) : (Nat × Bool) × RJ :=
  match unitP s.b s.at_ with
  | some x => ((x, true), { s with at_ := s.at_ + 4 })
  | none => ((0, false), s)
def k71_VsJEsc : List Nat := [0,2,3,4,6,17,31,32,33,34,37,46,55]
def a71_1_VsJEsc : List Nat := [0,1,3,7,15,0,32,96,224,511,1023]
def o71_1_VsJEsc : List Nat := [0,1,2,3,4,5,6,7,8,9,10]
def a71_4_VsJEsc : List Nat := [0,1,3,7,0,16,48,112,0,256,768,1792,3840,8191,16383,0]
def o71_4_VsJEsc : List Nat := [0,1,2,3,4,5,6,7,8,9,10,11,12,13,14,15]
attribute [go_sem] k71_VsJEsc a71_1_VsJEsc o71_1_VsJEsc a71_4_VsJEsc o71_4_VsJEsc
theorem f71_ok (s : RJ) (nb : Bool) (ha : s.b.length ≤ 100000) (hat : s.at_ ≤ s.b.length) : CallsB Tryd.prog 71 [.ptr 1000000 0] [s.cells nb (4, 0)] (.tup [.int .i32 ((unitS s).1.1 : Int), .bool (unitS s).1.2]) [(unitS s).2.cells nb (3, 0)] := by
  obtain ⟨b, at_, deep, nodes, err⟩ := s
  unfold unitS unitP
  simp only at ha hat ⊢
  by_cases h4 : at_ + 4 ≤ b.length
  · rw [if_pos h4]
    have e4 : (b.drop at_).take (at_ + 4 - at_) = (b.drop at_).take 4 := by rw [Nat.add_sub_cancel_left]
    have a4 : (at_ : Int) + 4 = ((at_ + 4 : Nat) : Int) := by omega
    have m4 : ((at_ : Int) + 4).toNat = at_ + 4 := by omega
    have hl4 : ((b.drop at_).take 4).length = 4 := by rw [List.length_take, List.length_drop]; omega
    generalize (b.drop at_).take 4 = t at *
    obtain ⟨R, hR⟩ : ∃ R, hexN t 0 = R := ⟨_, rfl⟩
    rw [hR]
    refine CallsB.intro Tryd.func71 rfl (by show 1 ≤ 78; decide) ?_
    rintro X hX
    have hn : X.n = 78 := hX
    unfold Tryd.f71
    dsimp only
    rw [entryB11]
    repeat' first
     | with_reducible refine Rl.go (by constructor <;> decide) ?_
     | ((with_reducible first | refine hK _ ?_ | refine hK.1 ?_ | refine hK.2 ?_); clear hK K)
     | ((with_reducible refine condS hK (fun hg => ?_) fun hg => ?_) <;> clear hK K <;> (try simp only [hgW] at hg) <;> try (exfalso; omega))
     | ((first | ((with_reducible first | refine Rk.go k71_VsJEsc (by constructor) ?_ | refine Rd.go 1 k71_VsJEsc a71_1_VsJEsc o71_1_VsJEsc mixed (by constructor) (by kernel_rfl) (by kernel_rfl) ?_ | refine Rd.go 4 k71_VsJEsc a71_4_VsJEsc o71_4_VsJEsc mixed (by constructor) (by kernel_rfl) (by kernel_rfl) ?_); intro K hK) | with_reducible refine Rr.go [] (by constructor) ?_ | (with_reducible refine guardP_split (fun hg => ?_) fun hg => ?_) <;> (try simp only [hg]) <;> (try simp only [hgW] at hg)) <;> simp -implicitDefEqProofs only [RJ.cells, e4, hl4, m4, hn, go_sem, simprocAttr] <;> try (simp (disch := omega) only [wrW, Go.IntWalk.i32_in]; try simp -implicitDefEqProofs only [RJ.cells, e4, hl4, m4, hn, go_sem, simprocAttr]))
     | with_reducible refine And.intro (by first | omega | (simp only [hgW]; omega)) ?_
     | (exfalso; omega)
    refine AWP.loopX [0, 2, 3, 4, 31, 32, 33] [] (fun x : Nat × Nat => St.mk (lk [(0, .ptr 1000000 0), (2, .int .i32 0), (3, .bool false), (4, .int .i32 (x.2 : Int)), (31, .sl none nb 1 (t.map u8)), (32, .int .i64 4), (33, .int .i64 (x.1 : Int))]) (lkB [(1000000, (RJ.mk b at_ deep nodes err).cells nb (4, 0))]) (hasS []) (hasS []) (hasN []) (lkR []))
      (fun x => x.1 ≤ 4 ∧ x.2 < 16 ^ x.1 ∧ hexN (t.drop x.1) x.2 = R) (fun x => 4 - x.1) (0, 0) ?_ ⟨by simp, by simp, hR⟩ ?_
    · simp -implicitDefEqProofs only [RJ.cells, hn, go_sem, simprocAttr]
      try rfl
    rintro ⟨i, x⟩ ⟨hi, hx, hh⟩
    simp only at hi hx hh
    by_cases hi4 : i = 4
    · subst hi4
      rw [List.drop_of_length_le (by omega)] at hh
      simp only [hexN] at hh
      subst hh
      repeat' first
       | with_reducible refine Rl.go (by constructor <;> decide) ?_
       | ((with_reducible first | refine hK _ ?_ | refine hK.1 ?_ | refine hK.2 ?_); clear hK K)
       | ((with_reducible refine condS hK (fun hg => ?_) fun hg => ?_) <;> clear hK K <;> (try simp only [hgW] at hg) <;> try (exfalso; omega))
       | ((first | ((with_reducible first | refine Rk.go k71_VsJEsc (by constructor) ?_ | refine Rd.go 1 k71_VsJEsc a71_1_VsJEsc o71_1_VsJEsc mixed (by constructor) (by kernel_rfl) (by kernel_rfl) ?_ | refine Rd.go 4 k71_VsJEsc a71_4_VsJEsc o71_4_VsJEsc mixed (by constructor) (by kernel_rfl) (by kernel_rfl) ?_); intro K hK) | with_reducible refine Rr.go [] (by constructor) ?_ | (with_reducible refine guardP_split (fun hg => ?_) fun hg => ?_) <;> (try simp only [hg]) <;> (try simp only [hgW] at hg)) <;> simp -implicitDefEqProofs only [RJ.cells, a4, hn, go_sem, simprocAttr] <;> try (simp (disch := omega) only [wrW, Go.IntWalk.i32_in]; try simp -implicitDefEqProofs only [RJ.cells, a4, hn, go_sem, simprocAttr]))
       | with_reducible refine And.intro (by first | omega | (simp only [hgW]; omega)) ?_
       | (exfalso; omega)
    · have hx4 : x < 4096 := Nat.lt_of_lt_of_le hx (by rw [show (4096 : Nat) = 16 ^ 3 from rfl]; exact Nat.pow_le_pow_right (by decide) (by omega))
      rw [drop_at t i (by omega)] at hh
      simp only [hexN] at hh
      obtain ⟨c, hc⟩ : ∃ c, t.getD i default = c := ⟨_, rfl⟩
      rw [hc] at hh
      have hct := c.toNat_lt
      have e2 : (i : Int) + 1 = ((i + 1 : Nat) : Int) := by omega
      unfold hexV at hh
      have p16 : 16 ^ (i + 1) = 16 ^ i * 16 := Nat.pow_succ ..
      have mi4 : min 4 IntKind.i32.bits = 4 := rfl
      have step : ∀ v : Nat, v < 16 → bitop .or .i32 ((x : Int) * 16) (v : Int) = ((x * 16 + v : Nat) : Int) := fun v hv => by
        have := or_i32 x v 16 4 rfl hv (by omega)
        simp only [Int.cast_ofNat_Int] at this
        exact this
      by_cases h1 : 48 ≤ c.toNat ∧ c.toNat ≤ 57
      · rw [if_pos h1] at hh
        have s1 := step (c.toNat - 48) (by omega)
        have s2 : ((c.toNat - 48 : Nat) : Int) = (c.toNat : Int) - 48 := by omega
        rw [s2] at s1
        repeat' first
         | with_reducible refine Rl.go (by constructor <;> decide) ?_
         | ((with_reducible first | refine hK _ ?_ | refine hK.1 ?_ | refine hK.2 ?_); clear hK K)
         | ((with_reducible refine condS hK (fun hg => ?_) fun hg => ?_) <;> clear hK K <;> (try simp only [hgW] at hg) <;> try (exfalso; omega))
         | ((first | ((with_reducible first | refine Rk.go k71_VsJEsc (by constructor) ?_ | refine Rd.go 1 k71_VsJEsc a71_1_VsJEsc o71_1_VsJEsc mixed (by constructor) (by kernel_rfl) (by kernel_rfl) ?_ | refine Rd.go 4 k71_VsJEsc a71_4_VsJEsc o71_4_VsJEsc mixed (by constructor) (by kernel_rfl) (by kernel_rfl) ?_); intro K hK) | with_reducible refine Rr.go [] (by constructor) ?_ | (with_reducible refine guardP_split (fun hg => ?_) fun hg => ?_) <;> (try simp only [hg]) <;> (try simp only [hgW] at hg)) <;> simp -implicitDefEqProofs only [RJ.cells, u8, hc, mi4, s1, hn, go_sem, simprocAttr] <;> try (simp (disch := omega) only [wrW, Go.IntWalk.i32_in]; try simp -implicitDefEqProofs only [RJ.cells, u8, hc, mi4, s1, hn, go_sem, simprocAttr]))
         | with_reducible refine And.intro (by first | omega | (simp only [hgW]; omega)) ?_
         | (exfalso; omega)
        refine ⟨(i + 1, x * 16 + (c.toNat - 48)), ?_, ⟨by simp only; omega, by simp only; rw [p16]; omega, hh⟩, by simp only; omega⟩
        rw [e2]
        simp -implicitDefEqProofs only [RJ.cells, hn, go_sem, simprocAttr]
        try rfl
      rw [if_neg h1] at hh
      by_cases h2 : 97 ≤ c.toNat ∧ c.toNat ≤ 102
      · rw [if_pos h2] at hh
        have s1 := step (c.toNat - 87) (by omega)
        have s2 : ((c.toNat - 87 : Nat) : Int) = (c.toNat : Int) - 87 := by omega
        rw [s2] at s1
        repeat' first
         | with_reducible refine Rl.go (by constructor <;> decide) ?_
         | ((with_reducible first | refine hK _ ?_ | refine hK.1 ?_ | refine hK.2 ?_); clear hK K)
         | ((with_reducible refine condS hK (fun hg => ?_) fun hg => ?_) <;> clear hK K <;> (try simp only [hgW] at hg) <;> try (exfalso; omega))
         | ((first | ((with_reducible first | refine Rk.go k71_VsJEsc (by constructor) ?_ | refine Rd.go 1 k71_VsJEsc a71_1_VsJEsc o71_1_VsJEsc mixed (by constructor) (by kernel_rfl) (by kernel_rfl) ?_ | refine Rd.go 4 k71_VsJEsc a71_4_VsJEsc o71_4_VsJEsc mixed (by constructor) (by kernel_rfl) (by kernel_rfl) ?_); intro K hK) | with_reducible refine Rr.go [] (by constructor) ?_ | (with_reducible refine guardP_split (fun hg => ?_) fun hg => ?_) <;> (try simp only [hg]) <;> (try simp only [hgW] at hg)) <;> simp -implicitDefEqProofs only [RJ.cells, u8, hc, mi4, s1, hn, go_sem, simprocAttr] <;> try (simp (disch := omega) only [wrW, Go.IntWalk.i32_in]; try simp -implicitDefEqProofs only [RJ.cells, u8, hc, mi4, s1, hn, go_sem, simprocAttr]))
         | with_reducible refine And.intro (by first | omega | (simp only [hgW]; omega)) ?_
         | (exfalso; omega)
        refine ⟨(i + 1, x * 16 + (c.toNat - 87)), ?_, ⟨by simp only; omega, by simp only; rw [p16]; omega, hh⟩, by simp only; omega⟩
        rw [e2]
        simp -implicitDefEqProofs only [RJ.cells, hn, go_sem, simprocAttr]
        try rfl
      rw [if_neg h2] at hh
      by_cases h3 : 65 ≤ c.toNat ∧ c.toNat ≤ 70
      · rw [if_pos h3] at hh
        have s1 := step (c.toNat - 55) (by omega)
        have s2 : ((c.toNat - 55 : Nat) : Int) = (c.toNat : Int) - 55 := by omega
        rw [s2] at s1
        repeat' first
         | with_reducible refine Rl.go (by constructor <;> decide) ?_
         | ((with_reducible first | refine hK _ ?_ | refine hK.1 ?_ | refine hK.2 ?_); clear hK K)
         | ((with_reducible refine condS hK (fun hg => ?_) fun hg => ?_) <;> clear hK K <;> (try simp only [hgW] at hg) <;> try (exfalso; omega))
         | ((first | ((with_reducible first | refine Rk.go k71_VsJEsc (by constructor) ?_ | refine Rd.go 1 k71_VsJEsc a71_1_VsJEsc o71_1_VsJEsc mixed (by constructor) (by kernel_rfl) (by kernel_rfl) ?_ | refine Rd.go 4 k71_VsJEsc a71_4_VsJEsc o71_4_VsJEsc mixed (by constructor) (by kernel_rfl) (by kernel_rfl) ?_); intro K hK) | with_reducible refine Rr.go [] (by constructor) ?_ | (with_reducible refine guardP_split (fun hg => ?_) fun hg => ?_) <;> (try simp only [hg]) <;> (try simp only [hgW] at hg)) <;> simp -implicitDefEqProofs only [RJ.cells, u8, hc, mi4, s1, hn, go_sem, simprocAttr] <;> try (simp (disch := omega) only [wrW, Go.IntWalk.i32_in]; try simp -implicitDefEqProofs only [RJ.cells, u8, hc, mi4, s1, hn, go_sem, simprocAttr]))
         | with_reducible refine And.intro (by first | omega | (simp only [hgW]; omega)) ?_
         | (exfalso; omega)
        refine ⟨(i + 1, x * 16 + (c.toNat - 55)), ?_, ⟨by simp only; omega, by simp only; rw [p16]; omega, hh⟩, by simp only; omega⟩
        rw [e2]
        simp -implicitDefEqProofs only [RJ.cells, hn, go_sem, simprocAttr]
        try rfl
      rw [if_neg h3] at hh
      have hh' : R = none := hh.symm
      subst hh'
      repeat' first
       | with_reducible refine Rl.go (by constructor <;> decide) ?_
       | ((with_reducible first | refine hK _ ?_ | refine hK.1 ?_ | refine hK.2 ?_); clear hK K)
       | ((with_reducible refine condS hK (fun hg => ?_) fun hg => ?_) <;> clear hK K <;> (try simp only [hgW] at hg) <;> try (exfalso; omega))
       | ((first | ((with_reducible first | refine Rk.go k71_VsJEsc (by constructor) ?_ | refine Rd.go 1 k71_VsJEsc a71_1_VsJEsc o71_1_VsJEsc mixed (by constructor) (by kernel_rfl) (by kernel_rfl) ?_ | refine Rd.go 4 k71_VsJEsc a71_4_VsJEsc o71_4_VsJEsc mixed (by constructor) (by kernel_rfl) (by kernel_rfl) ?_); intro K hK) | with_reducible refine Rr.go [] (by constructor) ?_ | (with_reducible refine guardP_split (fun hg => ?_) fun hg => ?_) <;> (try simp only [hg]) <;> (try simp only [hgW] at hg)) <;> simp -implicitDefEqProofs only [RJ.cells, u8, hc, hn, go_sem, simprocAttr] <;> try (simp (disch := omega) only [wrW, Go.IntWalk.i32_in]; try simp -implicitDefEqProofs only [RJ.cells, u8, hc, hn, go_sem, simprocAttr]))
       | with_reducible refine And.intro (by first | omega | (simp only [hgW]; omega)) ?_
       | (exfalso; omega)
  · rw [if_neg h4]
    refine CallsB.intro Tryd.func71 rfl (by show 1 ≤ 78; decide) ?_
    rintro X hX
    have hn : X.n = 78 := hX
    unfold Tryd.f71
    dsimp only
    rw [entryB11]
    repeat' first
     | with_reducible refine Rl.go (by constructor <;> decide) ?_
     | ((with_reducible first | refine hK _ ?_ | refine hK.1 ?_ | refine hK.2 ?_); clear hK K)
     | ((with_reducible refine condS hK (fun hg => ?_) fun hg => ?_) <;> clear hK K <;> (try simp only [hgW] at hg) <;> try (exfalso; omega))
     | ((first | ((with_reducible first | refine Rk.go k71_VsJEsc (by constructor) ?_ | refine Rd.go 1 k71_VsJEsc a71_1_VsJEsc o71_1_VsJEsc mixed (by constructor) (by kernel_rfl) (by kernel_rfl) ?_ | refine Rd.go 4 k71_VsJEsc a71_4_VsJEsc o71_4_VsJEsc mixed (by constructor) (by kernel_rfl) (by kernel_rfl) ?_); intro K hK) | with_reducible refine Rr.go [] (by constructor) ?_ | (with_reducible refine guardP_split (fun hg => ?_) fun hg => ?_) <;> (try simp only [hg]) <;> (try simp only [hgW] at hg)) <;> simp -implicitDefEqProofs only [RJ.cells, hn, go_sem, simprocAttr] <;> try (simp (disch := omega) only [wrW, Go.IntWalk.i32_in]; try simp -implicitDefEqProofs only [RJ.cells, hn, go_sem, simprocAttr]))
     | with_reducible refine And.intro (by first | omega | (simp only [hgW]; omega)) ?_
     | (exfalso; omega)
/-- The signs behind a backslash that stand for one byte. -/
def escFrom : List UInt8 := [34, 92, 47, 98, 102, 110, 114, 116]
def escTo : List UInt8 := [34, 92, 47, 8, 12, 10, 13, 9]
/-- An escape at a place: what is answered for the rune, whether it is right, where the reader stands. -/
def escR (b : List UInt8) (i : Nat) : Int × Bool × Nat :=
  if b.length ≤ i + 1 then (0, false, i)
  else match idxB escFrom (b.getD (i + 1) default) with
    | some k => (((escTo.getD k default).toNat : Int), true, i + 2)
    | none =>
      if b.getD (i + 1) default ≠ 117 then (0, false, i + 2)
      else match unitP b (i + 2) with
        | none => (0, false, i + 2)
        | some x =>
          if x / 1024 = 55 then (0, false, i + 6)
          else if x / 1024 ≠ 54 then ((x : Int), true, i + 6)
          else if b.length < i + 8 ∨ b.getD (i + 6) default ≠ 92 ∨ b.getD (i + 7) default ≠ 117 then (0, false, i + 6)
          else match unitP b (i + 8) with
            | none => (65536 + ((x : Int) - 55296) * 1024 + 0 - 56320, false, i + 8)
            | some y => (65536 + ((x : Int) - 55296) * 1024 + (y : Int) - 56320, decide (y / 1024 = 55), i + 12)
theorem shr10 (x : Nat) : ((x : Int)).fdiv 1024 = ((x / 1024 : Nat) : Int) := fd x 10
theorem mi10 : min 10 IntKind.i32.bits = 10 := rfl
theorem unitS_some {b : List UInt8} {i x deep err : Nat} {nodes : List JN} (h : unitP b i = some x) : unitS ⟨b, i, deep, nodes, err⟩ = ((x, true), ⟨b, i + 4, deep, nodes, err⟩) := by
  unfold unitS; simp only [h]
theorem unitS_none {b : List UInt8} {i deep err : Nat} {nodes : List JN} (h : unitP b i = none) : unitS ⟨b, i, deep, nodes, err⟩ = ((0, false), ⟨b, i, deep, nodes, err⟩) := by
  unfold unitS; simp only [h]
def k61_VsJEsc : List Nat := [0,2,3,4,5,6,7,8,9,20,40,41,42,43,49,55,67,70,109]
def a61_1_VsJEsc : List Nat := [0,1,3,7,15,0,32,96,224,480,1023]
def o61_1_VsJEsc : List Nat := [0,1,2,3,4,5,6,7,8,9,10]
def a61_3_VsJEsc : List Nat := [0,1,3,7,0,16,48,112,240,511,1023,2047]
def o61_3_VsJEsc : List Nat := [0,1,2,3,4,5,6,7,8,9,10,11]
def a61_18_VsJEsc : List Nat := [0,1,3,7,15,0,32,96,224,511,1023,2047,4095,8191,16383,32767,4095,69631,200703,462847,1048575,2097151,4194303,8388607,16777215,33554431,67108863,134217727,268435455,33554431,570425343,1644167167,3791650815,8086618111,17179869183,34359738367,68719476735,137438953471]
def o61_18_VsJEsc : List Nat := [0,1,2,3,4,5,6,7,8,9,10,11,12,13,14,15,16,17,18,19,20,21,22,23,24,25,26,27,28,29,30,31,32,33,34,35,36,37]
attribute [go_sem] k61_VsJEsc a61_1_VsJEsc o61_1_VsJEsc a61_3_VsJEsc o61_3_VsJEsc a61_18_VsJEsc o61_18_VsJEsc
theorem f61_ok (s : RJ) (nb : Bool) (ha : s.b.length ≤ 100000) (hat : s.at_ < s.b.length) : CallsB Tryd.prog 61 [.ptr 1000000 0] [s.cells nb (4, 0)] (.tup [.int .i32 (escR s.b s.at_).1, .bool (escR s.b s.at_).2.1]) [RJ.cells { s with at_ := (escR s.b s.at_).2.2 } nb (3, 0)] := by
  obtain ⟨b, at_, deep, nodes, err⟩ := s
  simp only at ha hat ⊢
  obtain ⟨R, hR⟩ : ∃ R, escR b at_ = R := ⟨_, rfl⟩
  rw [hR]
  unfold escR at hR
  have m1 : ((at_ : Int) + 1).toNat = at_ + 1 := by omega
  have m2 : ((at_ : Int) + 2).toNat = at_ + 2 := by omega
  have a2 : (at_ : Int) + 2 = ((at_ + 2 : Nat) : Int) := by omega
  by_cases h1 : b.length ≤ at_ + 1
  · rw [if_pos h1] at hR
    subst hR
    refine CallsB.intro Tryd.func61 rfl (by show 1 ≤ 135; decide) ?_
    rintro X hX
    have hn : X.n = 135 := hX
    unfold Tryd.f61
    dsimp only
    rw [entryB11]
    repeat' first
     | with_reducible refine Rl.go (by constructor <;> decide) ?_
     | ((with_reducible first | refine hK _ ?_ | refine hK.1 ?_ | refine hK.2 ?_); clear hK K)
     | ((with_reducible refine condS hK (fun hg => ?_) fun hg => ?_) <;> clear hK K <;> (try simp only [hgW] at hg) <;> try (exfalso; omega))
     | ((first | ((with_reducible first | refine Rk.go k61_VsJEsc (by constructor) ?_ | refine Rd.go 1 k61_VsJEsc a61_1_VsJEsc o61_1_VsJEsc mixed (by constructor) (by kernel_rfl) (by kernel_rfl) ?_ | refine Rd.go 3 k61_VsJEsc a61_3_VsJEsc o61_3_VsJEsc mixed (by constructor) (by kernel_rfl) (by kernel_rfl) ?_ | refine Rd.go 18 k61_VsJEsc a61_18_VsJEsc o61_18_VsJEsc mixed (by constructor) (by kernel_rfl) (by kernel_rfl) ?_); intro K hK) | with_reducible refine Rr.go [] (by constructor) ?_ | (with_reducible refine guardP_split (fun hg => ?_) fun hg => ?_) <;> (try simp only [hg]) <;> (try simp only [hgW] at hg)) <;> simp -implicitDefEqProofs only [RJ.cells, hn, go_sem, simprocAttr] <;> try (simp (disch := omega) only [wrW, Go.IntWalk.i32_in]; try simp -implicitDefEqProofs only [RJ.cells, hn, go_sem, simprocAttr]))
     | with_reducible refine And.intro (by first | omega | (simp only [hgW]; omega)) ?_
     | (exfalso; omega)
  rw [if_neg h1] at hR
  obtain ⟨c, hc⟩ : ∃ c, b.getD (at_ + 1) default = c := ⟨_, rfl⟩
  rw [hc] at hR
  refine CallsB.intro Tryd.func61 rfl (by show 1 ≤ 135; decide) ?_
  rintro X hX
  have hn : X.n = 135 := hX
  unfold Tryd.f61
  dsimp only
  rw [entryB11]
  repeat' first
   | with_reducible refine Rl.go (by constructor <;> decide) ?_
   | ((with_reducible first | refine hK _ ?_ | refine hK.1 ?_ | refine hK.2 ?_); clear hK K)
   | ((with_reducible refine condS hK (fun hg => ?_) fun hg => ?_) <;> clear hK K <;> (try simp only [hgW] at hg) <;> try (exfalso; omega))
   | ((first | ((with_reducible first | refine Rk.go k61_VsJEsc (by constructor) ?_ | refine Rd.go 1 k61_VsJEsc a61_1_VsJEsc o61_1_VsJEsc mixed (by constructor) (by kernel_rfl) (by kernel_rfl) ?_ | refine Rd.go 3 k61_VsJEsc a61_3_VsJEsc o61_3_VsJEsc mixed (by constructor) (by kernel_rfl) (by kernel_rfl) ?_ | refine Rd.go 18 k61_VsJEsc a61_18_VsJEsc o61_18_VsJEsc mixed (by constructor) (by kernel_rfl) (by kernel_rfl) ?_); intro K hK) | with_reducible refine Rr.go [] (by constructor) ?_ | (with_reducible refine guardP_split (fun hg => ?_) fun hg => ?_) <;> (try simp only [hg]) <;> (try simp only [hgW] at hg)) <;> simp -implicitDefEqProofs only [RJ.cells, u8, m1, hc, a2, hn, go_sem, simprocAttr] <;> try (simp (disch := omega) only [wrW, Go.IntWalk.i32_in]; try simp -implicitDefEqProofs only [RJ.cells, u8, m1, hc, a2, hn, go_sem, simprocAttr]))
   | with_reducible refine And.intro (by first | omega | (simp only [hgW]; omega)) ?_
   | (exfalso; omega)
  have htab : ∀ j : Nat, ([34, 92, 47, 8, 12, 10, 13, 9] : List UInt8).getD j default = escTo.getD j default := fun j => rfl
  have hle8 : escFrom.length = 8 := rfl
  have hlt8 : escTo.length = 8 := rfl
  refine AWP.loopX [0, 2, 3, 4, 40, 41, 42] [] (fun i : Nat => St.mk (lk [(0, .ptr 1000000 0), (2, .int .i32 0), (3, .bool false), (4, .int .u8 (c.toNat : Int)), (40, .sl (some ((0, 39), 0)) false 1 (escFrom.map u8)), (41, .int .i64 8), (42, .int .i64 (i : Int))]) (lkB [(1000000, (RJ.mk b (at_ + 2) deep nodes err).cells nb (4, 0))]) (hasS []) (hasS []) (hasN []) (lkR []))
    (fun i => i ≤ 8 ∧ ∀ j, j < i → escFrom.getD j default ≠ c) (fun i => 8 - i) 0 ?_ ⟨Nat.zero_le _, fun j hj => absurd hj (by omega)⟩ ?_
  · simp -implicitDefEqProofs only [RJ.cells, hn, go_sem, simprocAttr]
    try rfl
  rintro i ⟨hi, hj⟩
  have hd := idxB_drop escFrom c i hi hj
  by_cases hl : i = 8
  · subst hl
    rw [show escFrom.drop 8 = [] from rfl] at hd
    have hd : idxB escFrom c = none := hd
    rw [hd] at hR
    simp only at hR
    by_cases h117 : c ≠ 117
    · rw [if_pos h117] at hR
      subst hR
      have hn : ¬ (c.toNat : Int) = 117 := fun h => h117 (UInt8.toNat_inj.1 (by simp; omega))
      repeat' first
       | with_reducible refine Rl.go (by constructor <;> decide) ?_
       | ((with_reducible first | refine hK _ ?_ | refine hK.1 ?_ | refine hK.2 ?_); clear hK K)
       | ((with_reducible refine condS hK (fun hg => ?_) fun hg => ?_) <;> clear hK K <;> (try simp only [hgW] at hg) <;> try (exfalso; omega))
       | ((first | ((with_reducible first | refine Rk.go k61_VsJEsc (by constructor) ?_ | refine Rd.go 1 k61_VsJEsc a61_1_VsJEsc o61_1_VsJEsc mixed (by constructor) (by kernel_rfl) (by kernel_rfl) ?_ | refine Rd.go 3 k61_VsJEsc a61_3_VsJEsc o61_3_VsJEsc mixed (by constructor) (by kernel_rfl) (by kernel_rfl) ?_ | refine Rd.go 18 k61_VsJEsc a61_18_VsJEsc o61_18_VsJEsc mixed (by constructor) (by kernel_rfl) (by kernel_rfl) ?_); intro K hK) | with_reducible refine Rr.go [] (by constructor) ?_ | (with_reducible refine guardP_split (fun hg => ?_) fun hg => ?_) <;> (try simp only [hg]) <;> (try simp only [hgW] at hg)) <;> simp -implicitDefEqProofs only [RJ.cells, hn, hn, go_sem, simprocAttr] <;> try (simp (disch := omega) only [wrW, Go.IntWalk.i32_in]; try simp -implicitDefEqProofs only [RJ.cells, hn, hn, go_sem, simprocAttr]))
       | with_reducible refine And.intro (by first | omega | (simp only [hgW]; omega)) ?_
       | (exfalso; omega)
    have h117 : c = 117 := Classical.not_not.1 h117
    rw [if_neg (by simpa using h117)] at hR
    have hcn : (c.toNat : Int) = 117 := by rw [h117]; rfl
    have c71 := f71_ok ⟨b, at_ + 2, deep, nodes, err⟩ nb ha (by simp only; omega)
    cases hu : unitP b (at_ + 2) with
    | none =>
      rw [unitS_none hu] at c71
      rw [hu] at hR
      simp only at hR c71
      subst hR
      repeat' first
       | with_reducible refine Rl.go (by constructor <;> decide) ?_
       | ((with_reducible first | refine hK _ ?_ | refine hK.1 ?_ | refine hK.2 ?_); clear hK K)
       | ((with_reducible refine condS hK (fun hg => ?_) fun hg => ?_) <;> clear hK K <;> (try simp only [hgW] at hg) <;> try (exfalso; omega))
       | ((first | ((with_reducible first | refine Rk.go k61_VsJEsc (by constructor) ?_ | refine Rd.go 1 k61_VsJEsc a61_1_VsJEsc o61_1_VsJEsc mixed (by constructor) (by kernel_rfl) (by kernel_rfl) ?_ | refine Rd.go 3 k61_VsJEsc a61_3_VsJEsc o61_3_VsJEsc mixed (by constructor) (by kernel_rfl) (by kernel_rfl) ?_ | refine Rd.go 18 k61_VsJEsc a61_18_VsJEsc o61_18_VsJEsc mixed (by constructor) (by kernel_rfl) (by kernel_rfl) ?_); intro K hK) | with_reducible refine Rr.go [] (by constructor) ?_ | (with_reducible refine guardP_split (fun hg => ?_) fun hg => ?_) <;> (try simp only [hg]) <;> (try simp only [hgW] at hg) | (with_reducible refine callE_B3 c71 ?_)) <;> simp -implicitDefEqProofs only [eqOk_true, RJ.cells, hcn, hn, go_sem, simprocAttr] <;> try (simp (disch := omega) only [wrW, Go.IntWalk.i32_in]; try simp -implicitDefEqProofs only [RJ.cells, hcn, hn, go_sem, simprocAttr]))
       | with_reducible refine And.intro (by first | omega | (simp only [hgW]; omega)) ?_
       | (exfalso; omega)
    | some x =>
      rw [unitS_some hu] at c71
      obtain ⟨hx, hx6⟩ := unitP_lt hu
      rw [hu] at hR
      simp only at hR c71
      by_cases h55 : x / 1024 = 55
      · rw [if_pos h55] at hR
        subst hR
        repeat' first
         | with_reducible refine Rl.go (by constructor <;> decide) ?_
         | ((with_reducible first | refine hK _ ?_ | refine hK.1 ?_ | refine hK.2 ?_); clear hK K)
         | ((with_reducible refine condS hK (fun hg => ?_) fun hg => ?_) <;> clear hK K <;> (try simp only [hgW] at hg) <;> try (exfalso; omega))
         | ((first | ((with_reducible first | refine Rk.go k61_VsJEsc (by constructor) ?_ | refine Rd.go 1 k61_VsJEsc a61_1_VsJEsc o61_1_VsJEsc mixed (by constructor) (by kernel_rfl) (by kernel_rfl) ?_ | refine Rd.go 3 k61_VsJEsc a61_3_VsJEsc o61_3_VsJEsc mixed (by constructor) (by kernel_rfl) (by kernel_rfl) ?_ | refine Rd.go 18 k61_VsJEsc a61_18_VsJEsc o61_18_VsJEsc mixed (by constructor) (by kernel_rfl) (by kernel_rfl) ?_); intro K hK) | with_reducible refine Rr.go [] (by constructor) ?_ | (with_reducible refine guardP_split (fun hg => ?_) fun hg => ?_) <;> (try simp only [hg]) <;> (try simp only [hgW] at hg) | (with_reducible refine callE_B3 c71 ?_)) <;> simp -implicitDefEqProofs only [eqOk_true, RJ.cells, hcn, mi10, shr10, hn, go_sem, simprocAttr] <;> try (simp (disch := omega) only [wrW, Go.IntWalk.i32_in]; try simp -implicitDefEqProofs only [RJ.cells, hcn, mi10, shr10, hn, go_sem, simprocAttr]))
         | with_reducible refine And.intro (by first | omega | (simp only [hgW]; omega)) ?_
         | (exfalso; omega)
      rw [if_neg h55] at hR
      by_cases h54 : x / 1024 ≠ 54
      · rw [if_pos h54] at hR
        subst hR
        repeat' first
         | with_reducible refine Rl.go (by constructor <;> decide) ?_
         | ((with_reducible first | refine hK _ ?_ | refine hK.1 ?_ | refine hK.2 ?_); clear hK K)
         | ((with_reducible refine condS hK (fun hg => ?_) fun hg => ?_) <;> clear hK K <;> (try simp only [hgW] at hg) <;> try (exfalso; omega))
         | ((first | ((with_reducible first | refine Rk.go k61_VsJEsc (by constructor) ?_ | refine Rd.go 1 k61_VsJEsc a61_1_VsJEsc o61_1_VsJEsc mixed (by constructor) (by kernel_rfl) (by kernel_rfl) ?_ | refine Rd.go 3 k61_VsJEsc a61_3_VsJEsc o61_3_VsJEsc mixed (by constructor) (by kernel_rfl) (by kernel_rfl) ?_ | refine Rd.go 18 k61_VsJEsc a61_18_VsJEsc o61_18_VsJEsc mixed (by constructor) (by kernel_rfl) (by kernel_rfl) ?_); intro K hK) | with_reducible refine Rr.go [] (by constructor) ?_ | (with_reducible refine guardP_split (fun hg => ?_) fun hg => ?_) <;> (try simp only [hg]) <;> (try simp only [hgW] at hg) | (with_reducible refine callE_B3 c71 ?_)) <;> simp -implicitDefEqProofs only [eqOk_true, RJ.cells, hcn, mi10, shr10, hn, go_sem, simprocAttr] <;> try (simp (disch := omega) only [wrW, Go.IntWalk.i32_in]; try simp -implicitDefEqProofs only [RJ.cells, hcn, mi10, shr10, hn, go_sem, simprocAttr]))
         | with_reducible refine And.intro (by first | omega | (simp only [hgW]; omega)) ?_
         | (exfalso; omega)
      rw [if_neg h54] at hR
      have h54 : x / 1024 = 54 := Classical.not_not.1 h54
      have a6 : ((at_ + 2 + 4 : Nat) : Int) = ((at_ + 6 : Nat) : Int) := by omega
      have a8 : ((at_ + 6 : Nat) : Int) + 2 = ((at_ + 8 : Nat) : Int) := by omega
      have a7 : ((at_ + 6 : Nat) : Int) + 1 = ((at_ + 7 : Nat) : Int) := by omega
      by_cases hs : b.length < at_ + 8
      · rw [if_pos (.inl hs)] at hR
        subst hR
        repeat' first
         | with_reducible refine Rl.go (by constructor <;> decide) ?_
         | ((with_reducible first | refine hK _ ?_ | refine hK.1 ?_ | refine hK.2 ?_); clear hK K)
         | ((with_reducible refine condS hK (fun hg => ?_) fun hg => ?_) <;> clear hK K <;> (try simp only [hgW] at hg) <;> try (exfalso; omega))
         | ((first | ((with_reducible first | refine Rk.go k61_VsJEsc (by constructor) ?_ | refine Rd.go 1 k61_VsJEsc a61_1_VsJEsc o61_1_VsJEsc mixed (by constructor) (by kernel_rfl) (by kernel_rfl) ?_ | refine Rd.go 3 k61_VsJEsc a61_3_VsJEsc o61_3_VsJEsc mixed (by constructor) (by kernel_rfl) (by kernel_rfl) ?_ | refine Rd.go 18 k61_VsJEsc a61_18_VsJEsc o61_18_VsJEsc mixed (by constructor) (by kernel_rfl) (by kernel_rfl) ?_); intro K hK) | with_reducible refine Rr.go [] (by constructor) ?_ | (with_reducible refine guardP_split (fun hg => ?_) fun hg => ?_) <;> (try simp only [hg]) <;> (try simp only [hgW] at hg) | (with_reducible refine callE_B3 c71 ?_)) <;> simp -implicitDefEqProofs only [eqOk_true, RJ.cells, hcn, mi10, shr10, a6, hn, go_sem, simprocAttr] <;> try (simp (disch := omega) only [wrW, Go.IntWalk.i32_in]; try simp -implicitDefEqProofs only [RJ.cells, hcn, mi10, shr10, a6, hn, go_sem, simprocAttr]))
         | with_reducible refine And.intro (by first | omega | (simp only [hgW]; omega)) ?_
         | (exfalso; omega)
      obtain ⟨y6, hy6⟩ : ∃ y, b.getD (at_ + 6) default = y := ⟨_, rfl⟩
      obtain ⟨y7, hy7⟩ : ∃ y, b.getD (at_ + 7) default = y := ⟨_, rfl⟩
      rw [hy6, hy7] at hR
      by_cases h6 : y6 ≠ 92
      · rw [if_pos (.inr (.inl h6))] at hR
        subst hR
        have hn : ¬ (y6.toNat : Int) = 92 := fun h => h6 (UInt8.toNat_inj.1 (by simp; omega))
        repeat' first
         | with_reducible refine Rl.go (by constructor <;> decide) ?_
         | ((with_reducible first | refine hK _ ?_ | refine hK.1 ?_ | refine hK.2 ?_); clear hK K)
         | ((with_reducible refine condS hK (fun hg => ?_) fun hg => ?_) <;> clear hK K <;> (try simp only [hgW] at hg) <;> try (exfalso; omega))
         | ((first | ((with_reducible first | refine Rk.go k61_VsJEsc (by constructor) ?_ | refine Rd.go 1 k61_VsJEsc a61_1_VsJEsc o61_1_VsJEsc mixed (by constructor) (by kernel_rfl) (by kernel_rfl) ?_ | refine Rd.go 3 k61_VsJEsc a61_3_VsJEsc o61_3_VsJEsc mixed (by constructor) (by kernel_rfl) (by kernel_rfl) ?_ | refine Rd.go 18 k61_VsJEsc a61_18_VsJEsc o61_18_VsJEsc mixed (by constructor) (by kernel_rfl) (by kernel_rfl) ?_); intro K hK) | with_reducible refine Rr.go [] (by constructor) ?_ | (with_reducible refine guardP_split (fun hg => ?_) fun hg => ?_) <;> (try simp only [hg]) <;> (try simp only [hgW] at hg) | (with_reducible refine callE_B3 c71 ?_)) <;> simp -implicitDefEqProofs only [eqOk_true, RJ.cells, u8, hcn, mi10, shr10, a6, hy6, hn, hn, go_sem, simprocAttr] <;> try (simp (disch := omega) only [wrW, Go.IntWalk.i32_in]; try simp -implicitDefEqProofs only [RJ.cells, u8, hcn, mi10, shr10, a6, hy6, hn, hn, go_sem, simprocAttr]))
         | with_reducible refine And.intro (by first | omega | (simp only [hgW]; omega)) ?_
         | (exfalso; omega)
      have h6n : (y6.toNat : Int) = 92 := by rw [Classical.not_not.1 h6]; rfl
      by_cases h7 : y7 ≠ 117
      · rw [if_pos (.inr (.inr h7))] at hR
        subst hR
        have hn : ¬ (y7.toNat : Int) = 117 := fun h => h7 (UInt8.toNat_inj.1 (by simp; omega))
        repeat' first
         | with_reducible refine Rl.go (by constructor <;> decide) ?_
         | ((with_reducible first | refine hK _ ?_ | refine hK.1 ?_ | refine hK.2 ?_); clear hK K)
         | ((with_reducible refine condS hK (fun hg => ?_) fun hg => ?_) <;> clear hK K <;> (try simp only [hgW] at hg) <;> try (exfalso; omega))
         | ((first | ((with_reducible first | refine Rk.go k61_VsJEsc (by constructor) ?_ | refine Rd.go 1 k61_VsJEsc a61_1_VsJEsc o61_1_VsJEsc mixed (by constructor) (by kernel_rfl) (by kernel_rfl) ?_ | refine Rd.go 3 k61_VsJEsc a61_3_VsJEsc o61_3_VsJEsc mixed (by constructor) (by kernel_rfl) (by kernel_rfl) ?_ | refine Rd.go 18 k61_VsJEsc a61_18_VsJEsc o61_18_VsJEsc mixed (by constructor) (by kernel_rfl) (by kernel_rfl) ?_); intro K hK) | with_reducible refine Rr.go [] (by constructor) ?_ | (with_reducible refine guardP_split (fun hg => ?_) fun hg => ?_) <;> (try simp only [hg]) <;> (try simp only [hgW] at hg) | (with_reducible refine callE_B3 c71 ?_)) <;> simp -implicitDefEqProofs only [eqOk_true, RJ.cells, u8, hcn, mi10, shr10, a6, a7, hy6, hy7, h6n, hn, hn, go_sem, simprocAttr] <;> try (simp (disch := omega) only [wrW, Go.IntWalk.i32_in]; try simp -implicitDefEqProofs only [RJ.cells, u8, hcn, mi10, shr10, a6, a7, hy6, hy7, h6n, hn, hn, go_sem, simprocAttr]))
         | with_reducible refine And.intro (by first | omega | (simp only [hgW]; omega)) ?_
         | (exfalso; omega)
      have h7n : (y7.toNat : Int) = 117 := by rw [Classical.not_not.1 h7]; rfl
      rw [if_neg (by rintro (h | h | h); exact hs h; exact h6 h; exact h7 h)] at hR
      have c71b := f71_ok ⟨b, at_ + 8, deep, nodes, err⟩ nb ha (by simp only; omega)
      have mi10' : min 10 IntKind.i32.bits = 10 := rfl
      cases hu2 : unitP b (at_ + 8) with
      | none =>
        rw [unitS_none hu2] at c71b
        rw [hu2] at hR
        simp only at hR c71b
        subst hR
        repeat' first
         | with_reducible refine Rl.go (by constructor <;> decide) ?_
         | ((with_reducible first | refine hK _ ?_ | refine hK.1 ?_ | refine hK.2 ?_); clear hK K)
         | ((with_reducible refine condS hK (fun hg => ?_) fun hg => ?_) <;> clear hK K <;> (try simp only [hgW] at hg) <;> try (exfalso; omega))
         | ((with_reducible refine callE_B3 c71 ?_); simp -implicitDefEqProofs only [eqOk_true, RJ.cells, u8, hcn, mi10, shr10, a6, a7, a8, hy6, hy7, h6n, h7n, hn, go_sem, simprocAttr]; (skip; try (simp (disch := omega) only [wrW, Go.IntWalk.i32_in]; try simp -implicitDefEqProofs only [RJ.cells, u8, hcn, mi10, shr10, a6, a7, a8, hy6, hy7, h6n, h7n, hn, go_sem, simprocAttr])); fail_if_success (with_reducible refine eqOk_mk ?_))
         | ((with_reducible refine callE_B3 c71b ?_); simp -implicitDefEqProofs only [eqOk_true, RJ.cells, u8, hcn, mi10, shr10, a6, a7, a8, hy6, hy7, h6n, h7n, hn, go_sem, simprocAttr]; (skip; try (simp (disch := omega) only [wrW, Go.IntWalk.i32_in]; try simp -implicitDefEqProofs only [RJ.cells, u8, hcn, mi10, shr10, a6, a7, a8, hy6, hy7, h6n, h7n, hn, go_sem, simprocAttr])); fail_if_success (with_reducible refine eqOk_mk ?_))
         | ((first | ((with_reducible first | refine Rk.go k61_VsJEsc (by constructor) ?_ | refine Rd.go 1 k61_VsJEsc a61_1_VsJEsc o61_1_VsJEsc mixed (by constructor) (by kernel_rfl) (by kernel_rfl) ?_ | refine Rd.go 3 k61_VsJEsc a61_3_VsJEsc o61_3_VsJEsc mixed (by constructor) (by kernel_rfl) (by kernel_rfl) ?_ | refine Rd.go 18 k61_VsJEsc a61_18_VsJEsc o61_18_VsJEsc mixed (by constructor) (by kernel_rfl) (by kernel_rfl) ?_); intro K hK) | with_reducible refine Rr.go [] (by constructor) ?_ | (with_reducible refine guardP_split (fun hg => ?_) fun hg => ?_) <;> (try simp only [hg]) <;> (try simp only [hgW] at hg)) <;> simp -implicitDefEqProofs only [RJ.cells, u8, hcn, mi10, shr10, a6, a7, a8, hy6, hy7, h6n, h7n, hn, go_sem, simprocAttr] <;> try (simp (disch := omega) only [wrW, Go.IntWalk.i32_in]; try simp -implicitDefEqProofs only [RJ.cells, u8, hcn, mi10, shr10, a6, a7, a8, hy6, hy7, h6n, h7n, hn, go_sem, simprocAttr]))
         | with_reducible refine And.intro (by first | omega | (simp only [hgW]; omega)) ?_
         | (exfalso; omega)
      | some y =>
        rw [unitS_some hu2] at c71b
        obtain ⟨hy, hy8⟩ := unitP_lt hu2
        rw [hu2] at hR
        simp only at hR c71b
        subst hR
        by_cases h55y : y / 1024 = 55
        · skip
          repeat' first
           | with_reducible refine Rl.go (by constructor <;> decide) ?_
           | ((with_reducible first | refine hK _ ?_ | refine hK.1 ?_ | refine hK.2 ?_); clear hK K)
           | ((with_reducible refine condS hK (fun hg => ?_) fun hg => ?_) <;> clear hK K <;> (try simp only [hgW] at hg) <;> try (exfalso; omega))
           | ((with_reducible refine callE_B3 c71 ?_); simp -implicitDefEqProofs only [eqOk_true, RJ.cells, u8, hcn, mi10, shr10, a6, a7, a8, hy6, hy7, h6n, h7n, h55y, hn, go_sem, simprocAttr]; (skip; try (simp (disch := omega) only [wrW, Go.IntWalk.i32_in]; try simp -implicitDefEqProofs only [RJ.cells, u8, hcn, mi10, shr10, a6, a7, a8, hy6, hy7, h6n, h7n, h55y, hn, go_sem, simprocAttr])); fail_if_success (with_reducible refine eqOk_mk ?_))
           | ((with_reducible refine callE_B3 c71b ?_); simp -implicitDefEqProofs only [eqOk_true, RJ.cells, u8, hcn, mi10, shr10, a6, a7, a8, hy6, hy7, h6n, h7n, h55y, hn, go_sem, simprocAttr]; (skip; try (simp (disch := omega) only [wrW, Go.IntWalk.i32_in]; try simp -implicitDefEqProofs only [RJ.cells, u8, hcn, mi10, shr10, a6, a7, a8, hy6, hy7, h6n, h7n, h55y, hn, go_sem, simprocAttr])); fail_if_success (with_reducible refine eqOk_mk ?_))
           | ((first | ((with_reducible first | refine Rk.go k61_VsJEsc (by constructor) ?_ | refine Rd.go 1 k61_VsJEsc a61_1_VsJEsc o61_1_VsJEsc mixed (by constructor) (by kernel_rfl) (by kernel_rfl) ?_ | refine Rd.go 3 k61_VsJEsc a61_3_VsJEsc o61_3_VsJEsc mixed (by constructor) (by kernel_rfl) (by kernel_rfl) ?_ | refine Rd.go 18 k61_VsJEsc a61_18_VsJEsc o61_18_VsJEsc mixed (by constructor) (by kernel_rfl) (by kernel_rfl) ?_); intro K hK) | with_reducible refine Rr.go [] (by constructor) ?_ | (with_reducible refine guardP_split (fun hg => ?_) fun hg => ?_) <;> (try simp only [hg]) <;> (try simp only [hgW] at hg)) <;> simp -implicitDefEqProofs only [RJ.cells, u8, hcn, mi10, shr10, a6, a7, a8, hy6, hy7, h6n, h7n, h55y, hn, go_sem, simprocAttr] <;> try (simp (disch := omega) only [wrW, Go.IntWalk.i32_in]; try simp -implicitDefEqProofs only [RJ.cells, u8, hcn, mi10, shr10, a6, a7, a8, hy6, hy7, h6n, h7n, h55y, hn, go_sem, simprocAttr]))
           | with_reducible refine And.intro (by first | omega | (simp only [hgW]; omega)) ?_
           | (exfalso; omega)
        · have hyn : ¬ ((y / 1024 : Nat) : Int) = 55 := by omega
          rw [decide_eq_false h55y]
          repeat' first
           | with_reducible refine Rl.go (by constructor <;> decide) ?_
           | ((with_reducible first | refine hK _ ?_ | refine hK.1 ?_ | refine hK.2 ?_); clear hK K)
           | ((with_reducible refine condS hK (fun hg => ?_) fun hg => ?_) <;> clear hK K <;> (try simp only [hgW] at hg) <;> try (exfalso; omega))
           | ((with_reducible refine callE_B3 c71 ?_); simp -implicitDefEqProofs only [eqOk_true, RJ.cells, u8, hcn, mi10, shr10, a6, a7, a8, hy6, hy7, h6n, h7n, hyn, hn, go_sem, simprocAttr]; (skip; try (simp (disch := omega) only [wrW, Go.IntWalk.i32_in]; try simp -implicitDefEqProofs only [RJ.cells, u8, hcn, mi10, shr10, a6, a7, a8, hy6, hy7, h6n, h7n, hyn, hn, go_sem, simprocAttr])); fail_if_success (with_reducible refine eqOk_mk ?_))
           | ((with_reducible refine callE_B3 c71b ?_); simp -implicitDefEqProofs only [eqOk_true, RJ.cells, u8, hcn, mi10, shr10, a6, a7, a8, hy6, hy7, h6n, h7n, hyn, hn, go_sem, simprocAttr]; (skip; try (simp (disch := omega) only [wrW, Go.IntWalk.i32_in]; try simp -implicitDefEqProofs only [RJ.cells, u8, hcn, mi10, shr10, a6, a7, a8, hy6, hy7, h6n, h7n, hyn, hn, go_sem, simprocAttr])); fail_if_success (with_reducible refine eqOk_mk ?_))
           | ((first | ((with_reducible first | refine Rk.go k61_VsJEsc (by constructor) ?_ | refine Rd.go 1 k61_VsJEsc a61_1_VsJEsc o61_1_VsJEsc mixed (by constructor) (by kernel_rfl) (by kernel_rfl) ?_ | refine Rd.go 3 k61_VsJEsc a61_3_VsJEsc o61_3_VsJEsc mixed (by constructor) (by kernel_rfl) (by kernel_rfl) ?_ | refine Rd.go 18 k61_VsJEsc a61_18_VsJEsc o61_18_VsJEsc mixed (by constructor) (by kernel_rfl) (by kernel_rfl) ?_); intro K hK) | with_reducible refine Rr.go [] (by constructor) ?_ | (with_reducible refine guardP_split (fun hg => ?_) fun hg => ?_) <;> (try simp only [hg]) <;> (try simp only [hgW] at hg)) <;> simp -implicitDefEqProofs only [RJ.cells, u8, hcn, mi10, shr10, a6, a7, a8, hy6, hy7, h6n, h7n, hyn, hn, go_sem, simprocAttr] <;> try (simp (disch := omega) only [wrW, Go.IntWalk.i32_in]; try simp -implicitDefEqProofs only [RJ.cells, u8, hcn, mi10, shr10, a6, a7, a8, hy6, hy7, h6n, h7n, hyn, hn, go_sem, simprocAttr]))
           | with_reducible refine And.intro (by first | omega | (simp only [hgW]; omega)) ?_
           | (exfalso; omega)
  · rw [drop_at escFrom i (by rw [hle8]; omega), idxB] at hd
    obtain ⟨x, hx⟩ : ∃ x, escFrom.getD i default = x := ⟨_, rfl⟩
    rw [hx] at hd
    have e2 : (i : Int) + 1 = ((i + 1 : Nat) : Int) := by omega
    by_cases h : c = x
    · subst h
      rw [if_pos rfl] at hd
      rw [hd] at hR
      simp only [Option.map_some, Nat.zero_add] at hR
      subst hR
      have tlt := (escTo.getD i default).toNat_lt
      have hti : i < escTo.length := by rw [hlt8]; omega
      have htab' : ([34, 92, 47, 8, 12, 10, 13, 9] : List UInt8)[i]? = some (escTo.getD i default) := by
        show escTo[i]? = some (escTo.getD i default)
        rw [List.getD_eq_getElem?_getD, List.getElem?_eq_getElem hti]
        rfl
      repeat' first
       | with_reducible refine Rl.go (by constructor <;> decide) ?_
       | ((with_reducible first | refine hK _ ?_ | refine hK.1 ?_ | refine hK.2 ?_); clear hK K)
       | ((with_reducible refine condS hK (fun hg => ?_) fun hg => ?_) <;> clear hK K <;> (try simp only [hgW] at hg) <;> try (exfalso; omega))
       | ((first | ((with_reducible first | refine Rk.go k61_VsJEsc (by constructor) ?_ | refine Rd.go 1 k61_VsJEsc a61_1_VsJEsc o61_1_VsJEsc mixed (by constructor) (by kernel_rfl) (by kernel_rfl) ?_ | refine Rd.go 3 k61_VsJEsc a61_3_VsJEsc o61_3_VsJEsc mixed (by constructor) (by kernel_rfl) (by kernel_rfl) ?_ | refine Rd.go 18 k61_VsJEsc a61_18_VsJEsc o61_18_VsJEsc mixed (by constructor) (by kernel_rfl) (by kernel_rfl) ?_); intro K hK) | with_reducible refine Rr.go [] (by constructor) ?_ | (with_reducible refine guardP_split (fun hg => ?_) fun hg => ?_) <;> (try simp only [hg]) <;> (try simp only [hgW] at hg)) <;> simp -implicitDefEqProofs only [RJ.cells, u8, hx, hle8, hlt8, htab', hn, go_sem, simprocAttr] <;> try (simp (disch := omega) only [wrW, Go.IntWalk.i32_in]; try simp -implicitDefEqProofs only [RJ.cells, u8, hx, hle8, hlt8, htab', hn, go_sem, simprocAttr]))
       | with_reducible refine And.intro (by first | omega | (simp only [hgW]; omega)) ?_
       | (exfalso; omega)
    · have hn : ¬ (c.toNat : Int) = (x.toNat : Int) := fun hh => h (UInt8.toNat_inj.1 (by omega))
      repeat' first
       | with_reducible refine Rl.go (by constructor <;> decide) ?_
       | ((with_reducible first | refine hK _ ?_ | refine hK.1 ?_ | refine hK.2 ?_); clear hK K)
       | ((with_reducible refine condS hK (fun hg => ?_) fun hg => ?_) <;> clear hK K <;> (try simp only [hgW] at hg) <;> try (exfalso; omega))
       | ((first | ((with_reducible first | refine Rk.go k61_VsJEsc (by constructor) ?_ | refine Rd.go 1 k61_VsJEsc a61_1_VsJEsc o61_1_VsJEsc mixed (by constructor) (by kernel_rfl) (by kernel_rfl) ?_ | refine Rd.go 3 k61_VsJEsc a61_3_VsJEsc o61_3_VsJEsc mixed (by constructor) (by kernel_rfl) (by kernel_rfl) ?_ | refine Rd.go 18 k61_VsJEsc a61_18_VsJEsc o61_18_VsJEsc mixed (by constructor) (by kernel_rfl) (by kernel_rfl) ?_); intro K hK) | with_reducible refine Rr.go [] (by constructor) ?_ | (with_reducible refine guardP_split (fun hg => ?_) fun hg => ?_) <;> (try simp only [hg]) <;> (try simp only [hgW] at hg)) <;> simp -implicitDefEqProofs only [RJ.cells, u8, hx, hle8, hn, hn, go_sem, simprocAttr] <;> try (simp (disch := omega) only [wrW, Go.IntWalk.i32_in]; try simp -implicitDefEqProofs only [RJ.cells, u8, hx, hle8, hn, hn, go_sem, simprocAttr]))
       | with_reducible refine And.intro (by first | omega | (simp only [hgW]; omega)) ?_
       | (exfalso; omega)
      refine ⟨i + 1, ?_, ⟨by omega, fun j hj' => ?_⟩, by omega⟩
      · rw [e2]
        simp -implicitDefEqProofs only [RJ.cells, hn, go_sem, simprocAttr]
        try rfl
      · by_cases hji : j = i
        · subst hji; rw [hx]; exact fun e => h e.symm
        · exact hj j (by omega)
end Go.Proofs.YtfemncfhiihckaaDoor
