/- What a browser says, as the law's hand writes it. -/
import Derived.Test.YtfemncfhiihckaaDoorVsREnc
open Go Go.VS
namespace Go.Proofs.YtfemncfhiihckaaDoor
set_option linter.unusedVariables false
set_option linter.unusedSimpArgs false
set_option maxRecDepth 20000
set_option maxHeartbeats 4000000
def kindC : Nat → List UInt8
  | 0 => [119, 101, 98, 97, 117, 116, 104, 110, 46, 99, 114, 101, 97, 116, 101]
  | 1 => [119, 101, 98, 97, 117, 116, 104, 110, 46, 103, 101, 116]
  | _ => [120]
def origC : Nat → List UInt8
  | 0 => [104, 116, 116, 112, 115, 58, 47, 47, 97, 46, 101, 120, 97, 109, 112, 108, 101]
  | 1 => [104, 116, 116, 112, 115, 58, 47, 47, 98, 46, 101, 120, 97, 109, 112, 108, 101]
  | _ => [104, 116, 116, 112, 115, 58, 47, 47, 99, 46, 101, 120, 97, 109, 112, 108, 101]
def gapC : Nat → List UInt8
  | 0 => []
  | 1 => [32]
  | _ => [10, 9]
def crosC : Nat → List UInt8
  | 0 => []
  | 1 => [44, 34, 99, 114, 111, 115, 115, 79, 114, 105, 103, 105, 110, 34, 58, 102, 97, 108, 115, 101]
  | 2 => [44, 34, 99, 114, 111, 115, 115, 79, 114, 105, 103, 105, 110, 34, 58, 116, 114, 117, 101]
  | _ => [44, 34, 99, 114, 111, 115, 115, 79, 114, 105, 103, 105, 110, 34, 58, 49]
def tokC : Nat → List UInt8
  | 0 => []
  | 1 => [44, 34, 116, 111, 107, 101, 110, 66, 105, 110, 100, 105, 110, 103, 34, 58, 123, 34, 115, 116, 97, 116, 117, 115, 34, 58, 34, 115, 117, 112, 112, 111, 114, 116, 101, 100, 34, 125]
  | 2 => [44, 34, 116, 111, 107, 101, 110, 66, 105, 110, 100, 105, 110, 103, 34, 58, 123, 34, 115, 116, 97, 116, 117, 115, 34, 58, 34, 112, 114, 101, 115, 101, 110, 116, 34, 44, 34, 105, 100, 34, 58, 34, 65, 65, 34, 125]
  | 3 => [44, 34, 116, 111, 107, 101, 110, 66, 105, 110, 100, 105, 110, 103, 34, 58, 123, 34, 115, 116, 97, 116, 117, 115, 34, 58, 34, 112, 114, 101, 115, 101, 110, 116, 34, 125]
  | _ => [44, 34, 116, 111, 107, 101, 110, 66, 105, 110, 100, 105, 110, 103, 34, 58, 123, 34, 115, 116, 97, 116, 117, 115, 34, 58, 34, 112, 114, 101, 115, 101, 110, 116, 34, 44, 34, 105, 100, 34, 58, 34, 65, 34, 125]
abbrev zB : List UInt8 := [34, 122, 34, 58, 91, 49, 44, 123, 34, 116, 121, 112, 101, 34, 58, 110, 117, 108, 108, 125, 93, 44]
abbrev tyQ : List UInt8 := [34, 116, 121, 112, 101, 34, 58]
abbrev cmQ : List UInt8 := [34, 44]
abbrev chQ : List UInt8 := [34, 99, 104, 97, 108, 108, 101, 110, 103, 101, 34, 58, 34]
abbrev ogQ : List UInt8 := [34, 111, 114, 105, 103, 105, 110, 34, 58, 34]
def sayT (k o c t d : Nat) (dz : Bool) (e : List UInt8) : List UInt8 :=
  123 :: (gapC d ++ ((bif dz then zB ++ gapC d else []) ++ (tyQ ++ (gapC d ++ (34 :: (kindC k ++ (cmQ ++ (gapC d ++ (chQ ++ (e ++ (cmQ ++ (gapC d ++ (ogQ ++ (origC o ++ (34 :: (crosC c ++ (tokC t ++ (gapC d ++ [125]))))))))))))))))))
def k26_VsRSay : List Nat := [0,1,2,4,5,6,7,8,22]
def a26_7_VsRSay : List Nat := [0,1,0,7,15,0,0,64,192,480,992,2047,4095,0,16383,32767,0,65536,262143,524287,0,2097151,4194303,0,0,16777216,50331648,125829120,260046848,536870911,1073741823,2147483647]
def o26_7_VsRSay : List Nat := [16,17,0,1,2,3,4,5,6,7,8,9,10,11,12,13,14,15,18,19,20,21,22,23,24,25,26,27,28,29,30,31]
attribute [go_sem] k26_VsRSay a26_7_VsRSay o26_7_VsRSay
theorem f26_ok (k o c t d : UInt8) (nb : Bool) (dr : List UInt8) (hl : dr.length ≤ 1000) : CallsP Tryd.prog 26 [.agg [.int .u8 (k.toNat : Int), .int .u8 (o.toNat : Int), .int .u8 (c.toNat : Int), .int .u8 (t.toNat : Int), .int .u8 (d.toNat : Int)], .sl none nb 1 (dr.map u8)]
    (.sl (some ((3, 0), 0)) false 1 ((sayT (k.toNat % 3) (o.toNat % 3) (c.toNat % 4) (t.toNat % 5) (d.toNat % 3) (decide (d.toNat % 2 = 1)) (enc64 dr)).map u8)) := by
  have c36 := f36_ok dr nb (by omega)
  have hel : (enc64 dr).length = (8 * dr.length + 5) / 6 := e64_len _ _
  obtain ⟨E, hE⟩ : ∃ E, enc64 dr = E := ⟨_, rfl⟩
  rw [hE] at c36 hel ⊢
  obtain ⟨a, ha, ha3⟩ : ∃ a : Nat, k.toNat % 3 = a ∧ a < 3 := ⟨_, rfl, by omega⟩
  obtain ⟨b, hb, hb3⟩ : ∃ b : Nat, o.toNat % 3 = b ∧ b < 3 := ⟨_, rfl, by omega⟩
  obtain ⟨x, hx, hx3⟩ : ∃ x : Nat, c.toNat % 4 = x ∧ x < 4 := ⟨_, rfl, by omega⟩
  obtain ⟨y, hy, hy3⟩ : ∃ y : Nat, t.toNat % 5 = y ∧ y < 5 := ⟨_, rfl, by omega⟩
  obtain ⟨z, hz, hz3⟩ : ∃ z : Nat, d.toNat % 3 = z ∧ z < 3 := ⟨_, rfl, by omega⟩
  obtain ⟨w, hw, hw3⟩ : ∃ w : Nat, d.toNat % 2 = w ∧ w < 2 := ⟨_, rfl, by omega⟩
  have ha' : (k.toNat : Int) % 3 = (a : Int) := by omega
  have hb' : (o.toNat : Int) % 3 = (b : Int) := by omega
  have hx' : (c.toNat : Int) % 4 = (x : Int) := by omega
  have hy' : (t.toNat : Int) % 5 = (y : Int) := by omega
  have hz' : (d.toNat : Int) % 3 = (z : Int) := by omega
  have hw' : (d.toNat : Int) % 2 = (w : Int) := by omega
  have sa : [AV.str [119, 101, 98, 97, 117, 116, 104, 110, 46, 99, 114, 101, 97, 116, 101], AV.str [119, 101, 98, 97, 117, 116, 104, 110, 46, 103, 101, 116], AV.str [120]][a]? = some (AV.str (kindC a)) := by
    rcases (by omega : a = 0 ∨ a = 1 ∨ a = 2) with rfl | rfl | rfl <;> rfl
  have sal : (kindC a).length ≤ 60 := by
    rcases (by omega : a = 0 ∨ a = 1 ∨ a = 2) with rfl | rfl | rfl <;> decide
  have sb : [AV.str [104, 116, 116, 112, 115, 58, 47, 47, 97, 46, 101, 120, 97, 109, 112, 108, 101], AV.str [104, 116, 116, 112, 115, 58, 47, 47, 98, 46, 101, 120, 97, 109, 112, 108, 101], AV.str [104, 116, 116, 112, 115, 58, 47, 47, 99, 46, 101, 120, 97, 109, 112, 108, 101]][b]? = some (AV.str (origC b)) := by
    rcases (by omega : b = 0 ∨ b = 1 ∨ b = 2) with rfl | rfl | rfl <;> rfl
  have sbl : (origC b).length ≤ 60 := by
    rcases (by omega : b = 0 ∨ b = 1 ∨ b = 2) with rfl | rfl | rfl <;> decide
  have sx : [AV.str [], AV.str [44, 34, 99, 114, 111, 115, 115, 79, 114, 105, 103, 105, 110, 34, 58, 102, 97, 108, 115, 101], AV.str [44, 34, 99, 114, 111, 115, 115, 79, 114, 105, 103, 105, 110, 34, 58, 116, 114, 117, 101], AV.str [44, 34, 99, 114, 111, 115, 115, 79, 114, 105, 103, 105, 110, 34, 58, 49]][x]? = some (AV.str (crosC x)) := by
    rcases (by omega : x = 0 ∨ x = 1 ∨ x = 2 ∨ x = 3) with rfl | rfl | rfl | rfl <;> rfl
  have sxl : (crosC x).length ≤ 60 := by
    rcases (by omega : x = 0 ∨ x = 1 ∨ x = 2 ∨ x = 3) with rfl | rfl | rfl | rfl <;> decide
  have sy : [AV.str [], AV.str [44, 34, 116, 111, 107, 101, 110, 66, 105, 110, 100, 105, 110, 103, 34, 58, 123, 34, 115, 116, 97, 116, 117, 115, 34, 58, 34, 115, 117, 112, 112, 111, 114, 116, 101, 100, 34, 125], AV.str [44, 34, 116, 111, 107, 101, 110, 66, 105, 110, 100, 105, 110, 103, 34, 58, 123, 34, 115, 116, 97, 116, 117, 115, 34, 58, 34, 112, 114, 101, 115, 101, 110, 116, 34, 44, 34, 105, 100, 34, 58, 34, 65, 65, 34, 125], AV.str [44, 34, 116, 111, 107, 101, 110, 66, 105, 110, 100, 105, 110, 103, 34, 58, 123, 34, 115, 116, 97, 116, 117, 115, 34, 58, 34, 112, 114, 101, 115, 101, 110, 116, 34, 125], AV.str [44, 34, 116, 111, 107, 101, 110, 66, 105, 110, 100, 105, 110, 103, 34, 58, 123, 34, 115, 116, 97, 116, 117, 115, 34, 58, 34, 112, 114, 101, 115, 101, 110, 116, 34, 44, 34, 105, 100, 34, 58, 34, 65, 34, 125]][y]? = some (AV.str (tokC y)) := by
    rcases (by omega : y = 0 ∨ y = 1 ∨ y = 2 ∨ y = 3 ∨ y = 4) with rfl | rfl | rfl | rfl | rfl <;> rfl
  have syl : (tokC y).length ≤ 60 := by
    rcases (by omega : y = 0 ∨ y = 1 ∨ y = 2 ∨ y = 3 ∨ y = 4) with rfl | rfl | rfl | rfl | rfl <;> decide
  have sz : [AV.str [], AV.str [32], AV.str [10, 9]][z]? = some (AV.str (gapC z)) := by
    rcases (by omega : z = 0 ∨ z = 1 ∨ z = 2) with rfl | rfl | rfl <;> rfl
  have szl : (gapC z).length ≤ 60 := by
    rcases (by omega : z = 0 ∨ z = 1 ∨ z = 2) with rfl | rfl | rfl <;> decide
  rw [ha, hb, hx, hy, hz, hw]
  obtain ⟨A, hA⟩ : ∃ A, kindC a = A := ⟨_, rfl⟩
  obtain ⟨B, hB⟩ : ∃ B, origC b = B := ⟨_, rfl⟩
  obtain ⟨X1, hX1⟩ : ∃ X1, crosC x = X1 := ⟨_, rfl⟩
  obtain ⟨Y1, hY1⟩ : ∃ Y1, tokC y = Y1 := ⟨_, rfl⟩
  obtain ⟨Z1, hZ1⟩ : ∃ Z1, gapC z = Z1 := ⟨_, rfl⟩
  unfold sayT
  rw [hA] at sa sal ⊢
  rw [hB] at sb sbl ⊢
  rw [hX1] at sx sxl ⊢
  rw [hY1] at sy syl ⊢
  rw [hZ1] at sz szl ⊢
  rcases (by omega : w = 0 ∨ w = 1) with rfl | rfl
  all_goals
    simp only [decide_true, cond_true, Nat.zero_ne_one, decide_false, cond_false, List.nil_append]
    refine CallsP.intro Tryd.func26 rfl (by show 2 ≤ 79; decide) ?_
    rintro X hX
    have hn : X.n = 79 := hX
    unfold Tryd.f26
    dsimp only
    rw [entry2]
    repeat' first
     | with_reducible refine Rl.go (by constructor <;> decide) ?_
     | ((with_reducible first | refine hK _ ?_ | refine hK.1 ?_ | refine hK.2 ?_); clear hK K)
     | ((with_reducible refine condS hK (fun hg => ?_) fun hg => ?_) <;> clear hK K <;> (try simp only [hgW] at hg) <;> try (exfalso; omega))
     | ((first | ((with_reducible first | refine Rk.go k26_VsRSay (by constructor) ?_ | refine Rd.go 7 k26_VsRSay a26_7_VsRSay o26_7_VsRSay mixed (by constructor) (by kernel_rfl) (by kernel_rfl) ?_); intro K hK) | with_reducible refine Rr.go [] (by constructor) ?_ | (with_reducible refine guardP_split (fun hg => ?_) fun hg => ?_) <;> (try simp only [hg]) <;> (try simp only [hgW] at hg) | refine Rc.go c36 (by constructor) ?_) <;> simp -implicitDefEqProofs only [ha', hb', hx', hy', hz', hw', sa, sb, sx, sy, sz, hn, go_sem, simprocAttr] <;> try (simp (disch := omega) only [wrW]; try simp -implicitDefEqProofs only [ha', hb', hx', hy', hz', hw', sa, sb, sx, sy, sz, hn, go_sem, simprocAttr]))
     | with_reducible refine And.intro (by first | omega | (simp only [hgW]; omega)) ?_
     | (exfalso; omega)
    all_goals simp [List.append_assoc, zB, tyQ, cmQ, chQ, ogQ]
end Go.Proofs.YtfemncfhiihckaaDoor
