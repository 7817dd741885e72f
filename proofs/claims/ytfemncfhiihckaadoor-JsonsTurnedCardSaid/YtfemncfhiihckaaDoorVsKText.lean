/- What the document's texts come to. -/
import Derived.Test.YtfemncfhiihckaaDoorVsKHead
import Derived.Test.YtfemncfhiihckaaDoorVsKHex
open Go Go.VS
namespace Go.Proofs.YtfemncfhiihckaaDoor
set_option linter.unusedVariables false
set_option linter.unusedSimpArgs false
set_option maxRecDepth 20000
set_option maxHeartbeats 4000000
theorem enc_eq (x : Nat) (hx : x < 1114112) (hs : ¬ (55296 ≤ x ∧ x < 57344)) : (Utf8.encode (x : Int)).data.toList = encB x := by
  have hv : Utf8.valid (x : Int) = true := by
    simp only [Utf8.valid, Bool.or_eq_true, Bool.and_eq_true, decide_eq_true_eq]
    omega
  unfold Utf8.encode encB
  simp only
  rw [hv, if_pos rfl, Int.toNat_natCast]
  by_cases h1 : x < 128
  · rw [if_pos h1, if_pos h1]
  rw [if_neg h1, if_neg h1]
  by_cases h2 : x < 2048
  · rw [if_pos h2, if_pos h2]
  rw [if_neg h2, if_neg h2]
  by_cases h3 : x < 65536
  · rw [if_pos h3, if_pos h3]
  rw [if_neg h3, if_neg h3]
/-- A text's bytes, as the document reads them: what it means, whether it is right, where the reader stands. -/
def txR (b : List UInt8) : Nat → Nat → List UInt8 → List UInt8 × Bool × Nat
  | 0, i, _ => ([], false, i)
  | n + 1, i, out =>
    if b.length ≤ i then ([], false, i)
    else if (b.getD i default).toNat < 32 then ([], false, i)
    else if b.getD i default = 34 then (out, true, i + 1)
    else if b.getD i default ≠ 92 then
      (if (Go.Lib.decodeL (b.drop i)).1 = 65533 ∧ (Go.Lib.decodeL (b.drop i)).2 = 1 then ([], false, i)
       else txR b n (i + (Go.Lib.decodeL (b.drop i)).2) (out ++ (b.drop i).take (Go.Lib.decodeL (b.drop i)).2))
    else if b.length ≤ i + 1 then ([], false, i + 1)
    else match idxB escFrom (b.getD (i + 1) default) with
      | some k => txR b n (i + 2) (out ++ [escTo.getD k default])
      | none =>
        if b.getD (i + 1) default ≠ 117 then ([], false, i + 2)
        else match unitP b (i + 2) with
          | none => ([], false, i + 2)
          | some x =>
            if 56320 ≤ x ∧ x ≤ 57343 then ([], false, i + 6)
            else if ¬ (55296 ≤ x ∧ x ≤ 56319) then txR b n (i + 6) (out ++ encB x)
            else if (wordP b (i + 6) [92, 117]).1 = false then ([], false, i + 6)
            else match unitP b (i + 8) with
              | none => ([], false, i + 8)
              | some y => if y < 56320 ∨ 57343 < y then ([], false, i + 12) else txR b n (i + 12) (out ++ encB (65536 + (x - 55296) * 1024 + y - 56320))
def textC (s : RJ) : (List UInt8 × Bool) × RJ :=
  (((txR s.b (s.b.length + 1) (s.at_ + 1) []).1, (txR s.b (s.b.length + 1) (s.at_ + 1) []).2.1), { s with at_ := (txR s.b (s.b.length + 1) (s.at_ + 1) []).2.2 })
structure TxJ (b : List UInt8) (R : List UInt8 × Bool × Nat) (x : Nat × Nat × List UInt8) : Prop where
  le : x.2.1 ≤ b.length
  fu : b.length < x.1 + x.2.1
  ol : x.2.2.length ≤ 2 * x.2.1
  eq : txR b x.1 x.2.1 x.2.2 = R
theorem esc_distinct : ∀ k : Fin 8, idxB escFrom (escFrom.getD k.val default) = some k.val := by decide
theorem snoc_ne (l : List UInt8) (a : UInt8) : (l ++ [a]).isEmpty = false := by simp
theorem app_ne (l m : List UInt8) (h : 1 ≤ m.length) : (l ++ m).isEmpty = false := by
  cases e : l ++ m with
  | nil => have := congrArg List.length e; rw [List.length_append] at this; simp only [List.length_nil] at this; omega
  | cons => rfl
theorem app_ne2 (l m : List UInt8) (h : 1 ≤ m.length) : (l.isEmpty && (m.map u8).isEmpty) = false := by
  have : (m.map u8).isEmpty = false := by
    cases e : m with
    | nil => rw [e] at h; simp at h
    | cons => rfl
  rw [this, Bool.and_false]
def k53_VsKText : List Nat := [0,2,3,4,5,6,7,8,9,10,11,12,13,14,15,46,58,70,89,133,155,162,169,171,186,192,195,210]
def a53_3_VsKText : List Nat := [0,1,3,7,0,16,48,112,240,511,1023,2047,4095,8191,16383,2047,34815,100351,231423,524287,1048575,2097151,4194303]
def o53_3_VsKText : List Nat := [0,1,2,3,4,5,6,7,8,9,10,11,12,13,14,15,16,17,18,19,20,21,22]
def a53_5_VsKText : List Nat := [0,1,3,7,0,16,48,112,255,511,1023]
def o53_5_VsKText : List Nat := [0,1,2,3,4,5,6,7,8,9,10]
def a53_10_VsKText : List Nat := [0,1,3,7,0,16,48,112,255,511,1023,2047,2047,4095,16383]
def o53_10_VsKText : List Nat := [0,1,2,3,4,5,6,7,8,9,10,11,12,13,14]
def a53_13_VsKText : List Nat := [0,0,2,6,14,0,32,96,224,0,512,1536,3584,0,15872,32766,65535,131071]
def o53_13_VsKText : List Nat := [0,1,2,3,4,5,6,7,8,9,10,11,12,13,14,15,16,17]
def a53_16_VsKText : List Nat := [0,1,3,7,0,16,48,112,240,511]
def o53_16_VsKText : List Nat := [0,1,2,3,4,5,6,7,8,9]
def a53_18_VsKText : List Nat := [0,1,3,7,0,16,48,112,255,511,1023]
def o53_18_VsKText : List Nat := [0,1,2,3,4,5,6,7,8,9,10]
attribute [go_sem] k53_VsKText a53_3_VsKText o53_3_VsKText a53_5_VsKText o53_5_VsKText a53_10_VsKText o53_10_VsKText a53_13_VsKText o53_13_VsKText a53_16_VsKText o53_16_VsKText a53_18_VsKText o53_18_VsKText
theorem f53_ok (s : RJ) (nb : Bool) (ho : OkJ s) (hat : s.at_ < s.b.length) : CallsB Tryd.prog 53 [.ptr 1000000 0] [s.cells nb (4, 0)] (.tup [.str (textC s).1.1, .bool (textC s).1.2]) [(textC s).2.cells nb (3, 0)] := by
  obtain ⟨b, at_, deep, nodes, err⟩ := s
  obtain ⟨g1, ha, g3⟩ := ho
  unfold textC
  simp only at ha hat g1 g3 ⊢
  have OK := fun (i : Nat) (hi : i ≤ b.length) => (⟨hi, ha, g3⟩ : OkJ ⟨b, i, deep, nodes, err⟩)
  obtain ⟨R, hR⟩ : ∃ R, txR b (b.length + 1) (at_ + 1) [] = R := ⟨_, rfl⟩
  rw [hR]
  have a1 : (at_ : Int) + 1 = ((at_ + 1 : Nat) : Int) := by omega
  refine CallsB.intro Tryd.func53 rfl (by show 1 ≤ 224; decide) ?_
  rintro X hX
  have hn : X.n = 224 := hX
  unfold Tryd.f53
  dsimp only
  rw [entryB11]
  repeat' first
   | with_reducible refine Rl.go (by constructor <;> decide) ?_
   | ((with_reducible first | refine hK _ ?_ | refine hK.1 ?_ | refine hK.2 ?_); clear hK K)
   | ((with_reducible refine condS hK (fun hg => ?_) fun hg => ?_) <;> clear hK K <;> (try simp only [hgW] at hg) <;> try (exfalso; omega))
   | ((first | ((with_reducible first | refine Rk.go k53_VsKText (by constructor) ?_ | refine Rd.go 3 k53_VsKText a53_3_VsKText o53_3_VsKText mixed (by constructor) (by kernel_rfl) (by kernel_rfl) ?_ | refine Rd.go 5 k53_VsKText a53_5_VsKText o53_5_VsKText mixed (by constructor) (by kernel_rfl) (by kernel_rfl) ?_ | refine Rd.go 10 k53_VsKText a53_10_VsKText o53_10_VsKText mixed (by constructor) (by kernel_rfl) (by kernel_rfl) ?_ | refine Rd.go 13 k53_VsKText a53_13_VsKText o53_13_VsKText mixed (by constructor) (by kernel_rfl) (by kernel_rfl) ?_ | refine Rd.go 16 k53_VsKText a53_16_VsKText o53_16_VsKText mixed (by constructor) (by kernel_rfl) (by kernel_rfl) ?_ | refine Rd.go 18 k53_VsKText a53_18_VsKText o53_18_VsKText mixed (by constructor) (by kernel_rfl) (by kernel_rfl) ?_); intro K hK) | with_reducible refine Rr.go [] (by constructor) ?_ | (with_reducible refine guardP_split (fun hg => ?_) fun hg => ?_) <;> (try simp only [hg]) <;> (try simp only [hgW] at hg)) <;> simp -implicitDefEqProofs only [RJ.cells, a1, hn, go_sem, simprocAttr] <;> try (simp (disch := omega) only [wrW, Go.IntWalk.i32_in]; try simp -implicitDefEqProofs only [RJ.cells, a1, hn, go_sem, simprocAttr]))
   | with_reducible refine And.intro (by first | omega | (simp only [hgW]; omega)) ?_
   | (exfalso; omega)
  refine AWP.adopt 4 (0, 999) 0 1 (by rfl) ?_
  refine AWP.loopX [0, 2, 3, 4] [] (fun x : Nat × Nat × List UInt8 => St.mk (lk [(0, .ptr 1000000 0), (2, .str []), (3, .bool false), (4, .sl (some ((0, 999), 0)) x.2.2.isEmpty 1 (x.2.2.map u8))]) (lkB [(1000000, (RJ.mk b x.2.1 deep nodes err).cells nb (4, 0))]) (hasS []) (hasS []) (hasN []) (lkR []))
    (TxJ b R) (fun x => b.length - x.2.1) (b.length + 1, at_ + 1, []) ?_ ⟨by simp only; omega, by simp only; omega, by simp, hR⟩ ?_
  · simp -implicitDefEqProofs only [RJ.cells, hn, go_sem, simprocAttr]
    try rfl
  rintro ⟨n, i, out⟩ ⟨hi, hn', hol, hh⟩
  simp only at hi hn' hol hh
  obtain ⟨n, rfl⟩ : ∃ m, n = m + 1 := ⟨n - 1, by omega⟩
  unfold txR at hh
  by_cases h1 : b.length ≤ i
  · rw [if_pos h1] at hh
    subst hh
    repeat' first
     | with_reducible refine Rl.go (by constructor <;> decide) ?_
     | ((with_reducible first | refine hK _ ?_ | refine hK.1 ?_ | refine hK.2 ?_); clear hK K)
     | ((with_reducible refine condS hK (fun hg => ?_) fun hg => ?_) <;> clear hK K <;> (try simp only [hgW] at hg) <;> try (exfalso; omega))
     | ((first | ((with_reducible first | refine Rk.go k53_VsKText (by constructor) ?_ | refine Rd.go 3 k53_VsKText a53_3_VsKText o53_3_VsKText mixed (by constructor) (by kernel_rfl) (by kernel_rfl) ?_ | refine Rd.go 5 k53_VsKText a53_5_VsKText o53_5_VsKText mixed (by constructor) (by kernel_rfl) (by kernel_rfl) ?_ | refine Rd.go 10 k53_VsKText a53_10_VsKText o53_10_VsKText mixed (by constructor) (by kernel_rfl) (by kernel_rfl) ?_ | refine Rd.go 13 k53_VsKText a53_13_VsKText o53_13_VsKText mixed (by constructor) (by kernel_rfl) (by kernel_rfl) ?_ | refine Rd.go 16 k53_VsKText a53_16_VsKText o53_16_VsKText mixed (by constructor) (by kernel_rfl) (by kernel_rfl) ?_ | refine Rd.go 18 k53_VsKText a53_18_VsKText o53_18_VsKText mixed (by constructor) (by kernel_rfl) (by kernel_rfl) ?_); intro K hK) | with_reducible refine Rr.go [] (by constructor) ?_ | (with_reducible refine guardP_split (fun hg => ?_) fun hg => ?_) <;> (try simp only [hg]) <;> (try simp only [hgW] at hg)) <;> simp -implicitDefEqProofs only [RJ.cells, hn, go_sem, simprocAttr] <;> try (simp (disch := omega) only [wrW, Go.IntWalk.i32_in]; try simp -implicitDefEqProofs only [RJ.cells, hn, go_sem, simprocAttr]))
     | with_reducible refine And.intro (by first | omega | (simp only [hgW]; omega)) ?_
     | (exfalso; omega)
  rw [if_neg h1] at hh
  obtain ⟨c, hc⟩ : ∃ c, b.getD i default = c := ⟨_, rfl⟩
  rw [hc] at hh
  have hct := c.toNat_lt
  have i1 : (i : Int) + 1 = ((i + 1 : Nat) : Int) := by omega
  by_cases h32 : c.toNat < 32
  · rw [if_pos h32] at hh
    subst hh
    repeat' first
     | with_reducible refine Rl.go (by constructor <;> decide) ?_
     | ((with_reducible first | refine hK _ ?_ | refine hK.1 ?_ | refine hK.2 ?_); clear hK K)
     | ((with_reducible refine condS hK (fun hg => ?_) fun hg => ?_) <;> clear hK K <;> (try simp only [hgW] at hg) <;> try (exfalso; omega))
     | ((first | ((with_reducible first | refine Rk.go k53_VsKText (by constructor) ?_ | refine Rd.go 3 k53_VsKText a53_3_VsKText o53_3_VsKText mixed (by constructor) (by kernel_rfl) (by kernel_rfl) ?_ | refine Rd.go 5 k53_VsKText a53_5_VsKText o53_5_VsKText mixed (by constructor) (by kernel_rfl) (by kernel_rfl) ?_ | refine Rd.go 10 k53_VsKText a53_10_VsKText o53_10_VsKText mixed (by constructor) (by kernel_rfl) (by kernel_rfl) ?_ | refine Rd.go 13 k53_VsKText a53_13_VsKText o53_13_VsKText mixed (by constructor) (by kernel_rfl) (by kernel_rfl) ?_ | refine Rd.go 16 k53_VsKText a53_16_VsKText o53_16_VsKText mixed (by constructor) (by kernel_rfl) (by kernel_rfl) ?_ | refine Rd.go 18 k53_VsKText a53_18_VsKText o53_18_VsKText mixed (by constructor) (by kernel_rfl) (by kernel_rfl) ?_); intro K hK) | with_reducible refine Rr.go [] (by constructor) ?_ | (with_reducible refine guardP_split (fun hg => ?_) fun hg => ?_) <;> (try simp only [hg]) <;> (try simp only [hgW] at hg)) <;> simp -implicitDefEqProofs only [RJ.cells, u8, hc, hn, go_sem, simprocAttr] <;> try (simp (disch := omega) only [wrW, Go.IntWalk.i32_in]; try simp -implicitDefEqProofs only [RJ.cells, u8, hc, hn, go_sem, simprocAttr]))
     | with_reducible refine And.intro (by first | omega | (simp only [hgW]; omega)) ?_
     | (exfalso; omega)
  rw [if_neg h32] at hh
  by_cases h34 : c = 34
  · rw [if_pos h34] at hh
    subst hh
    have hci : (c.toNat : Int) = 34 := by rw [h34]; rfl
    repeat' first
     | with_reducible refine Rl.go (by constructor <;> decide) ?_
     | ((with_reducible first | refine hK _ ?_ | refine hK.1 ?_ | refine hK.2 ?_); clear hK K)
     | ((with_reducible refine condS hK (fun hg => ?_) fun hg => ?_) <;> clear hK K <;> (try simp only [hgW] at hg) <;> try (exfalso; omega))
     | ((first | ((with_reducible first | refine Rk.go k53_VsKText (by constructor) ?_ | refine Rd.go 3 k53_VsKText a53_3_VsKText o53_3_VsKText mixed (by constructor) (by kernel_rfl) (by kernel_rfl) ?_ | refine Rd.go 5 k53_VsKText a53_5_VsKText o53_5_VsKText mixed (by constructor) (by kernel_rfl) (by kernel_rfl) ?_ | refine Rd.go 10 k53_VsKText a53_10_VsKText o53_10_VsKText mixed (by constructor) (by kernel_rfl) (by kernel_rfl) ?_ | refine Rd.go 13 k53_VsKText a53_13_VsKText o53_13_VsKText mixed (by constructor) (by kernel_rfl) (by kernel_rfl) ?_ | refine Rd.go 16 k53_VsKText a53_16_VsKText o53_16_VsKText mixed (by constructor) (by kernel_rfl) (by kernel_rfl) ?_ | refine Rd.go 18 k53_VsKText a53_18_VsKText o53_18_VsKText mixed (by constructor) (by kernel_rfl) (by kernel_rfl) ?_); intro K hK) | with_reducible refine Rr.go [] (by constructor) ?_ | (with_reducible refine guardP_split (fun hg => ?_) fun hg => ?_) <;> (try simp only [hg]) <;> (try simp only [hgW] at hg)) <;> simp -implicitDefEqProofs only [RJ.cells, u8, hc, hci, i1, hn, go_sem, simprocAttr] <;> try (simp (disch := omega) only [wrW, Go.IntWalk.i32_in]; try simp -implicitDefEqProofs only [RJ.cells, u8, hc, hci, i1, hn, go_sem, simprocAttr]))
     | with_reducible refine And.intro (by first | omega | (simp only [hgW]; omega)) ?_
     | (exfalso; omega)
  rw [if_neg h34] at hh
  have n34 : ¬ (c.toNat : Int) = 34 := fun h => h34 (UInt8.toNat_inj.1 (by simp; omega))
  by_cases h92 : c ≠ 92
  · rw [if_pos h92] at hh
    have n92 : ¬ (c.toNat : Int) = 92 := fun h => h92 (UInt8.toNat_inj.1 (by simp; omega))
    have hdl : (b.drop i).length = b.length - i := List.length_drop
    have hne : b.drop i ≠ [] := fun h => by have := congrArg List.length h; rw [hdl] at this; simp only [List.length_nil] at this; omega
    have hdp := decL_pos _ hne
    have c63 := f63_ok nb (b.drop i) hne (by omega)
    have hei : ∀ k : Nat, (b.drop i).take (i + k - i) = (b.drop i).take k := fun k => by rw [Nat.add_sub_cancel_left]
    obtain ⟨D, hD⟩ : ∃ D, Go.Lib.decodeL (b.drop i) = D := ⟨_, rfl⟩
    rw [hD] at hh hdp c63
    obtain ⟨dx, dn⟩ := D
    simp only at hdp c63 hh
    by_cases hbad : dx = 65533 ∧ dn = 1
    · rw [if_pos hbad] at hh
      obtain ⟨rfl, rfl⟩ := hbad
      subst hh
      repeat' first
       | with_reducible refine Rl.go (by constructor <;> decide) ?_
       | ((with_reducible first | refine hK _ ?_ | refine hK.1 ?_ | refine hK.2 ?_); clear hK K)
       | ((with_reducible refine condS hK (fun hg => ?_) fun hg => ?_) <;> clear hK K <;> (try simp only [hgW] at hg) <;> try (exfalso; omega))
       | ((first | ((with_reducible first | refine Rk.go k53_VsKText (by constructor) ?_ | refine Rd.go 3 k53_VsKText a53_3_VsKText o53_3_VsKText mixed (by constructor) (by kernel_rfl) (by kernel_rfl) ?_ | refine Rd.go 5 k53_VsKText a53_5_VsKText o53_5_VsKText mixed (by constructor) (by kernel_rfl) (by kernel_rfl) ?_ | refine Rd.go 10 k53_VsKText a53_10_VsKText o53_10_VsKText mixed (by constructor) (by kernel_rfl) (by kernel_rfl) ?_ | refine Rd.go 13 k53_VsKText a53_13_VsKText o53_13_VsKText mixed (by constructor) (by kernel_rfl) (by kernel_rfl) ?_ | refine Rd.go 16 k53_VsKText a53_16_VsKText o53_16_VsKText mixed (by constructor) (by kernel_rfl) (by kernel_rfl) ?_ | refine Rd.go 18 k53_VsKText a53_18_VsKText o53_18_VsKText mixed (by constructor) (by kernel_rfl) (by kernel_rfl) ?_); intro K hK) | with_reducible refine Rr.go [] (by constructor) ?_ | (with_reducible refine guardP_split (fun hg => ?_) fun hg => ?_) <;> (try simp only [hg]) <;> (try simp only [hgW] at hg) | refine Rc.go c63 (by constructor) ?_) <;> simp -implicitDefEqProofs only [RJ.cells, u8, hc, n34, n92, hn, go_sem, simprocAttr] <;> try (simp (disch := omega) only [wrW, Go.IntWalk.i32_in]; try simp -implicitDefEqProofs only [RJ.cells, u8, hc, n34, n92, hn, go_sem, simprocAttr]))
       | with_reducible refine And.intro (by first | omega | (simp only [hgW]; omega)) ?_
       | (exfalso; omega)
    · rw [if_neg hbad] at hh
      have ein : (i : Int) + (dn : Int) = ((i + dn : Nat) : Int) := by omega
      have mn : ((i : Int) + (dn : Int)).toNat = i + dn := by omega
      have htl : ((b.drop i).take dn).length = dn := by rw [List.length_take, hdl]; omega
      have e3 := app_ne out ((b.drop i).take dn) (by omega)
      have e4 := app_ne2 out ((b.drop i).take dn) (by omega)
      repeat' first
       | with_reducible refine Rl.go (by constructor <;> decide) ?_
       | ((with_reducible first | refine hK _ ?_ | refine hK.1 ?_ | refine hK.2 ?_); clear hK K)
       | ((with_reducible refine condS hK (fun hg => ?_) fun hg => ?_) <;> clear hK K <;> (try simp only [hgW] at hg) <;> try (exfalso; omega))
       | ((first | ((with_reducible first | refine Rk.go k53_VsKText (by constructor) ?_ | refine Rd.go 3 k53_VsKText a53_3_VsKText o53_3_VsKText mixed (by constructor) (by kernel_rfl) (by kernel_rfl) ?_ | refine Rd.go 5 k53_VsKText a53_5_VsKText o53_5_VsKText mixed (by constructor) (by kernel_rfl) (by kernel_rfl) ?_ | refine Rd.go 10 k53_VsKText a53_10_VsKText o53_10_VsKText mixed (by constructor) (by kernel_rfl) (by kernel_rfl) ?_ | refine Rd.go 13 k53_VsKText a53_13_VsKText o53_13_VsKText mixed (by constructor) (by kernel_rfl) (by kernel_rfl) ?_ | refine Rd.go 16 k53_VsKText a53_16_VsKText o53_16_VsKText mixed (by constructor) (by kernel_rfl) (by kernel_rfl) ?_ | refine Rd.go 18 k53_VsKText a53_18_VsKText o53_18_VsKText mixed (by constructor) (by kernel_rfl) (by kernel_rfl) ?_); intro K hK) | with_reducible refine Rr.go [] (by constructor) ?_ | (with_reducible refine guardP_split (fun hg => ?_) fun hg => ?_) <;> (try simp only [hg]) <;> (try simp only [hgW] at hg) | refine Rc.go c63 (by constructor) ?_) <;> simp -implicitDefEqProofs only [RJ.cells, u8, hc, n34, n92, hei, ein, mn, hn, go_sem, simprocAttr] <;> try (simp (disch := omega) only [wrW, Go.IntWalk.i32_in]; try simp -implicitDefEqProofs only [RJ.cells, u8, hc, n34, n92, hei, ein, mn, hn, go_sem, simprocAttr]))
       | with_reducible refine And.intro (by first | omega | (simp only [hgW]; omega)) ?_
       | (exfalso; omega)
      all_goals
        refine ⟨(n, i + dn, out ++ (b.drop i).take dn), ?_, ⟨by simp only; omega, by simp only; omega, by simp only [List.length_append, htl]; omega, hh⟩, by simp only; omega⟩
        simp -implicitDefEqProofs only [RJ.cells, e3, e4, List.map_append, hn, go_sem, simprocAttr]
        try rfl
  have h92 : c = 92 := Classical.not_not.1 h92
  rw [if_neg (by simpa using h92)] at hh
  have n92 : (c.toNat : Int) = 92 := by rw [h92]; rfl
  have i2 : ((i + 1 : Nat) : Int) + 1 = ((i + 2 : Nat) : Int) := by omega
  by_cases h1' : b.length ≤ i + 1
  · rw [if_pos h1'] at hh
    subst hh
    repeat' first
     | with_reducible refine Rl.go (by constructor <;> decide) ?_
     | ((with_reducible first | refine hK _ ?_ | refine hK.1 ?_ | refine hK.2 ?_); clear hK K)
     | ((with_reducible refine condS hK (fun hg => ?_) fun hg => ?_) <;> clear hK K <;> (try simp only [hgW] at hg) <;> try (exfalso; omega))
     | ((first | ((with_reducible first | refine Rk.go k53_VsKText (by constructor) ?_ | refine Rd.go 3 k53_VsKText a53_3_VsKText o53_3_VsKText mixed (by constructor) (by kernel_rfl) (by kernel_rfl) ?_ | refine Rd.go 5 k53_VsKText a53_5_VsKText o53_5_VsKText mixed (by constructor) (by kernel_rfl) (by kernel_rfl) ?_ | refine Rd.go 10 k53_VsKText a53_10_VsKText o53_10_VsKText mixed (by constructor) (by kernel_rfl) (by kernel_rfl) ?_ | refine Rd.go 13 k53_VsKText a53_13_VsKText o53_13_VsKText mixed (by constructor) (by kernel_rfl) (by kernel_rfl) ?_ | refine Rd.go 16 k53_VsKText a53_16_VsKText o53_16_VsKText mixed (by constructor) (by kernel_rfl) (by kernel_rfl) ?_ | refine Rd.go 18 k53_VsKText a53_18_VsKText o53_18_VsKText mixed (by constructor) (by kernel_rfl) (by kernel_rfl) ?_); intro K hK) | with_reducible refine Rr.go [] (by constructor) ?_ | (with_reducible refine guardP_split (fun hg => ?_) fun hg => ?_) <;> (try simp only [hg]) <;> (try simp only [hgW] at hg)) <;> simp -implicitDefEqProofs only [RJ.cells, u8, hc, n92, i1, hn, go_sem, simprocAttr] <;> try (simp (disch := omega) only [wrW, Go.IntWalk.i32_in]; try simp -implicitDefEqProofs only [RJ.cells, u8, hc, n92, i1, hn, go_sem, simprocAttr]))
     | with_reducible refine And.intro (by first | omega | (simp only [hgW]; omega)) ?_
     | (exfalso; omega)
  rw [if_neg h1'] at hh
  obtain ⟨d, hd⟩ : ∃ d, b.getD (i + 1) default = d := ⟨_, rfl⟩
  rw [hd] at hh
  have hdt := d.toNat_lt
  obtain ⟨o, hO⟩ : ∃ o, idxB escFrom d = o := ⟨_, rfl⟩
  rw [hO] at hh
  obtain ⟨PL, hPL⟩ : ∃ PL : Nat → Bool, PL = fun k => match o with | some j => decide (j < k) | none => false := ⟨_, rfl⟩
  obtain ⟨OU, hOU⟩ : ∃ OU : Nat → List UInt8, OU = fun k => match o with | some j => if j < k then out ++ [escTo.getD j default] else out | none => out := ⟨_, rfl⟩
  have hfl : escFrom.length = 8 := rfl
  have htl : escTo.length = 8 := rfl
  repeat' first
   | with_reducible refine Rl.go (by constructor <;> decide) ?_
   | ((with_reducible first | refine hK _ ?_ | refine hK.1 ?_ | refine hK.2 ?_); clear hK K)
   | ((with_reducible refine condS hK (fun hg => ?_) fun hg => ?_) <;> clear hK K <;> (try simp only [hgW] at hg) <;> try (exfalso; omega))
   | ((first | ((with_reducible first | refine Rk.go k53_VsKText (by constructor) ?_ | refine Rd.go 3 k53_VsKText a53_3_VsKText o53_3_VsKText mixed (by constructor) (by kernel_rfl) (by kernel_rfl) ?_ | refine Rd.go 5 k53_VsKText a53_5_VsKText o53_5_VsKText mixed (by constructor) (by kernel_rfl) (by kernel_rfl) ?_ | refine Rd.go 10 k53_VsKText a53_10_VsKText o53_10_VsKText mixed (by constructor) (by kernel_rfl) (by kernel_rfl) ?_ | refine Rd.go 13 k53_VsKText a53_13_VsKText o53_13_VsKText mixed (by constructor) (by kernel_rfl) (by kernel_rfl) ?_ | refine Rd.go 16 k53_VsKText a53_16_VsKText o53_16_VsKText mixed (by constructor) (by kernel_rfl) (by kernel_rfl) ?_ | refine Rd.go 18 k53_VsKText a53_18_VsKText o53_18_VsKText mixed (by constructor) (by kernel_rfl) (by kernel_rfl) ?_); intro K hK) | with_reducible refine Rr.go [] (by constructor) ?_ | (with_reducible refine guardP_split (fun hg => ?_) fun hg => ?_) <;> (try simp only [hg]) <;> (try simp only [hgW] at hg)) <;> simp -implicitDefEqProofs only [RJ.cells, u8, hc, n92, i1, hd, i2, hn, go_sem, simprocAttr] <;> try (simp (disch := omega) only [wrW, Go.IntWalk.i32_in]; try simp -implicitDefEqProofs only [RJ.cells, u8, hc, n92, i1, hd, i2, hn, go_sem, simprocAttr]))
   | with_reducible refine And.intro (by first | omega | (simp only [hgW]; omega)) ?_
   | (exfalso; omega)
  refine AWP.loopX [0, 2, 3, 4, 5, 8, 9, 10, 11] [] (fun k : Nat => St.mk (lk [(0, .ptr 1000000 0), (2, .str []), (3, .bool false), (4, .sl (some ((0, 999), 0)) (OU k).isEmpty 1 ((OU k).map u8)), (5, .int .u8 (d.toNat : Int)), (8, .str escFrom), (9, .str escTo), (10, .bool (PL k)), (11, .int .i64 (k : Int))]) (lkB [(1000000, (RJ.mk b (i + 2) deep nodes err).cells nb (4, 0))]) (hasS []) (hasS []) (hasN []) (lkR []))
    (fun k => k ≤ 8) (fun k => 8 - k) 0 ?_ (Nat.zero_le _) ?_
  · have z1 : PL 0 = false := by rw [hPL]; cases o <;> simp
    have z2 : OU 0 = out := by rw [hOU]; cases o <;> simp
    simp -implicitDefEqProofs only [RJ.cells, z1, z2, hn, go_sem, simprocAttr]
    try rfl
  intro k hk8
  try dsimp only
  have ek : (k : Int) + 1 = ((k + 1 : Nat) : Int) := by omega
  by_cases hk : k = 8
  · subst hk
    cases o with
    | some j =>
      have hj := (idxB_lt _ _ _ hO).1
      rw [hfl] at hj
      have z1 : PL 8 = true := by rw [hPL]; simp only; exact decide_eq_true hj
      have z2 : OU 8 = out ++ [escTo.getD j default] := by rw [hOU]; simp only; rw [if_pos hj]
      simp only at hh
      rw [z1, z2]
      repeat' first
       | with_reducible refine Rl.go (by constructor <;> decide) ?_
       | ((with_reducible first | refine hK _ ?_ | refine hK.1 ?_ | refine hK.2 ?_); clear hK K)
       | ((with_reducible refine condS hK (fun hg => ?_) fun hg => ?_) <;> clear hK K <;> (try simp only [hgW] at hg) <;> try (exfalso; omega))
       | ((first | ((with_reducible first | refine Rk.go k53_VsKText (by constructor) ?_ | refine Rd.go 3 k53_VsKText a53_3_VsKText o53_3_VsKText mixed (by constructor) (by kernel_rfl) (by kernel_rfl) ?_ | refine Rd.go 5 k53_VsKText a53_5_VsKText o53_5_VsKText mixed (by constructor) (by kernel_rfl) (by kernel_rfl) ?_ | refine Rd.go 10 k53_VsKText a53_10_VsKText o53_10_VsKText mixed (by constructor) (by kernel_rfl) (by kernel_rfl) ?_ | refine Rd.go 13 k53_VsKText a53_13_VsKText o53_13_VsKText mixed (by constructor) (by kernel_rfl) (by kernel_rfl) ?_ | refine Rd.go 16 k53_VsKText a53_16_VsKText o53_16_VsKText mixed (by constructor) (by kernel_rfl) (by kernel_rfl) ?_ | refine Rd.go 18 k53_VsKText a53_18_VsKText o53_18_VsKText mixed (by constructor) (by kernel_rfl) (by kernel_rfl) ?_); intro K hK) | with_reducible refine Rr.go [] (by constructor) ?_ | (with_reducible refine guardP_split (fun hg => ?_) fun hg => ?_) <;> (try simp only [hg]) <;> (try simp only [hgW] at hg)) <;> simp -implicitDefEqProofs only [RJ.cells, hfl, hn, go_sem, simprocAttr] <;> try (simp (disch := omega) only [wrW, Go.IntWalk.i32_in]; try simp -implicitDefEqProofs only [RJ.cells, hfl, hn, go_sem, simprocAttr]))
       | with_reducible refine And.intro (by first | omega | (simp only [hgW]; omega)) ?_
       | (exfalso; omega)
      refine ⟨(n, i + 2, out ++ [escTo.getD j default]), ?_, ⟨by simp only; omega, by simp only; omega, by simp only [List.length_append, List.length_cons, List.length_nil]; omega, hh⟩, by simp only; omega⟩
      simp -implicitDefEqProofs only [RJ.cells, hn, go_sem, simprocAttr]
      try rfl
    | none =>
      have z1 : PL 8 = false := by rw [hPL]
      have z2 : OU 8 = out := by rw [hOU]
      simp only at hh
      rw [z1, z2]
      clear hPL hOU z1 z2
      by_cases h117 : d ≠ 117
      · rw [if_pos h117] at hh
        subst hh
        have hn7 : ¬ (d.toNat : Int) = 117 := fun h => h117 (UInt8.toNat_inj.1 (by simp; omega))
        repeat' first
         | with_reducible refine Rl.go (by constructor <;> decide) ?_
         | ((with_reducible first | refine hK _ ?_ | refine hK.1 ?_ | refine hK.2 ?_); clear hK K)
         | ((with_reducible refine condS hK (fun hg => ?_) fun hg => ?_) <;> clear hK K <;> (try simp only [hgW] at hg) <;> try (exfalso; omega))
         | ((first | ((with_reducible first | refine Rk.go k53_VsKText (by constructor) ?_ | refine Rd.go 3 k53_VsKText a53_3_VsKText o53_3_VsKText mixed (by constructor) (by kernel_rfl) (by kernel_rfl) ?_ | refine Rd.go 5 k53_VsKText a53_5_VsKText o53_5_VsKText mixed (by constructor) (by kernel_rfl) (by kernel_rfl) ?_ | refine Rd.go 10 k53_VsKText a53_10_VsKText o53_10_VsKText mixed (by constructor) (by kernel_rfl) (by kernel_rfl) ?_ | refine Rd.go 13 k53_VsKText a53_13_VsKText o53_13_VsKText mixed (by constructor) (by kernel_rfl) (by kernel_rfl) ?_ | refine Rd.go 16 k53_VsKText a53_16_VsKText o53_16_VsKText mixed (by constructor) (by kernel_rfl) (by kernel_rfl) ?_ | refine Rd.go 18 k53_VsKText a53_18_VsKText o53_18_VsKText mixed (by constructor) (by kernel_rfl) (by kernel_rfl) ?_); intro K hK) | with_reducible refine Rr.go [] (by constructor) ?_ | (with_reducible refine guardP_split (fun hg => ?_) fun hg => ?_) <;> (try simp only [hg]) <;> (try simp only [hgW] at hg)) <;> simp -implicitDefEqProofs only [RJ.cells, hfl, hn7, hn, go_sem, simprocAttr] <;> try (simp (disch := omega) only [wrW, Go.IntWalk.i32_in]; try simp -implicitDefEqProofs only [RJ.cells, hfl, hn7, hn, go_sem, simprocAttr]))
         | with_reducible refine And.intro (by first | omega | (simp only [hgW]; omega)) ?_
         | (exfalso; omega)
      have h117 : d = 117 := Classical.not_not.1 h117
      rw [if_neg (by simpa using h117)] at hh
      have hdn : (d.toNat : Int) = 117 := by rw [h117]; rfl
      have c68 := f68_ok ⟨b, i + 2, deep, nodes, err⟩ nb (OK (i + 2) (by omega))
      cases hu : unitP b (i + 2) with
      | none =>
        rw [unitS_none hu] at c68
        rw [hu] at hh
        simp only at hh c68
        subst hh
        repeat' first
         | with_reducible refine Rl.go (by constructor <;> decide) ?_
         | ((with_reducible first | refine hK _ ?_ | refine hK.1 ?_ | refine hK.2 ?_); clear hK K)
         | ((with_reducible refine condS hK (fun hg => ?_) fun hg => ?_) <;> clear hK K <;> (try simp only [hgW] at hg) <;> try (exfalso; omega))
         | ((first | ((with_reducible first | refine Rk.go k53_VsKText (by constructor) ?_ | refine Rd.go 3 k53_VsKText a53_3_VsKText o53_3_VsKText mixed (by constructor) (by kernel_rfl) (by kernel_rfl) ?_ | refine Rd.go 5 k53_VsKText a53_5_VsKText o53_5_VsKText mixed (by constructor) (by kernel_rfl) (by kernel_rfl) ?_ | refine Rd.go 10 k53_VsKText a53_10_VsKText o53_10_VsKText mixed (by constructor) (by kernel_rfl) (by kernel_rfl) ?_ | refine Rd.go 13 k53_VsKText a53_13_VsKText o53_13_VsKText mixed (by constructor) (by kernel_rfl) (by kernel_rfl) ?_ | refine Rd.go 16 k53_VsKText a53_16_VsKText o53_16_VsKText mixed (by constructor) (by kernel_rfl) (by kernel_rfl) ?_ | refine Rd.go 18 k53_VsKText a53_18_VsKText o53_18_VsKText mixed (by constructor) (by kernel_rfl) (by kernel_rfl) ?_); intro K hK) | with_reducible refine Rr.go [] (by constructor) ?_ | (with_reducible refine guardP_split (fun hg => ?_) fun hg => ?_) <;> (try simp only [hg]) <;> (try simp only [hgW] at hg) | (with_reducible refine callE_B3 c68 ?_)) <;> simp -implicitDefEqProofs only [eqOk_true, RJ.cells, hfl, hdn, hn, go_sem, simprocAttr] <;> try (simp (disch := omega) only [wrW, Go.IntWalk.i32_in]; try simp -implicitDefEqProofs only [RJ.cells, hfl, hdn, hn, go_sem, simprocAttr]))
         | with_reducible refine And.intro (by first | omega | (simp only [hgW]; omega)) ?_
         | (exfalso; omega)
      | some x =>
        rw [unitS_some hu] at c68
        obtain ⟨hx, hx6⟩ := unitP_lt hu
        rw [hu] at hh
        simp only at hh c68
        have a6 : ((i + 2 + 4 : Nat) : Int) = ((i + 6 : Nat) : Int) := by omega
        by_cases hlow : 56320 ≤ x ∧ x ≤ 57343
        · rw [if_pos hlow] at hh
          subst hh
          repeat' first
           | with_reducible refine Rl.go (by constructor <;> decide) ?_
           | ((with_reducible first | refine hK _ ?_ | refine hK.1 ?_ | refine hK.2 ?_); clear hK K)
           | ((with_reducible refine condS hK (fun hg => ?_) fun hg => ?_) <;> clear hK K <;> (try simp only [hgW] at hg) <;> try (exfalso; omega))
           | ((first | ((with_reducible first | refine Rk.go k53_VsKText (by constructor) ?_ | refine Rd.go 3 k53_VsKText a53_3_VsKText o53_3_VsKText mixed (by constructor) (by kernel_rfl) (by kernel_rfl) ?_ | refine Rd.go 5 k53_VsKText a53_5_VsKText o53_5_VsKText mixed (by constructor) (by kernel_rfl) (by kernel_rfl) ?_ | refine Rd.go 10 k53_VsKText a53_10_VsKText o53_10_VsKText mixed (by constructor) (by kernel_rfl) (by kernel_rfl) ?_ | refine Rd.go 13 k53_VsKText a53_13_VsKText o53_13_VsKText mixed (by constructor) (by kernel_rfl) (by kernel_rfl) ?_ | refine Rd.go 16 k53_VsKText a53_16_VsKText o53_16_VsKText mixed (by constructor) (by kernel_rfl) (by kernel_rfl) ?_ | refine Rd.go 18 k53_VsKText a53_18_VsKText o53_18_VsKText mixed (by constructor) (by kernel_rfl) (by kernel_rfl) ?_); intro K hK) | with_reducible refine Rr.go [] (by constructor) ?_ | (with_reducible refine guardP_split (fun hg => ?_) fun hg => ?_) <;> (try simp only [hg]) <;> (try simp only [hgW] at hg) | (with_reducible refine callE_B3 c68 ?_)) <;> simp -implicitDefEqProofs only [eqOk_true, RJ.cells, hfl, hdn, a6, hn, go_sem, simprocAttr] <;> try (simp (disch := omega) only [wrW, Go.IntWalk.i32_in]; try simp -implicitDefEqProofs only [RJ.cells, hfl, hdn, a6, hn, go_sem, simprocAttr]))
           | with_reducible refine And.intro (by first | omega | (simp only [hgW]; omega)) ?_
           | (exfalso; omega)
        rw [if_neg hlow] at hh
        by_cases hhi : ¬ (55296 ≤ x ∧ x ≤ 56319)
        · rw [if_pos hhi] at hh
          have hen := enc_eq x (by omega) (by omega)
          have hel := encB_len x
          have e3 := app_ne out (encB x) hel.1
          have e4 := app_ne2 out (encB x) hel.1
          repeat' first
           | with_reducible refine Rl.go (by constructor <;> decide) ?_
           | ((with_reducible first | refine hK _ ?_ | refine hK.1 ?_ | refine hK.2 ?_); clear hK K)
           | ((with_reducible refine condS hK (fun hg => ?_) fun hg => ?_) <;> clear hK K <;> (try simp only [hgW] at hg) <;> try (exfalso; omega))
           | ((first | ((with_reducible first | refine Rk.go k53_VsKText (by constructor) ?_ | refine Rd.go 3 k53_VsKText a53_3_VsKText o53_3_VsKText mixed (by constructor) (by kernel_rfl) (by kernel_rfl) ?_ | refine Rd.go 5 k53_VsKText a53_5_VsKText o53_5_VsKText mixed (by constructor) (by kernel_rfl) (by kernel_rfl) ?_ | refine Rd.go 10 k53_VsKText a53_10_VsKText o53_10_VsKText mixed (by constructor) (by kernel_rfl) (by kernel_rfl) ?_ | refine Rd.go 13 k53_VsKText a53_13_VsKText o53_13_VsKText mixed (by constructor) (by kernel_rfl) (by kernel_rfl) ?_ | refine Rd.go 16 k53_VsKText a53_16_VsKText o53_16_VsKText mixed (by constructor) (by kernel_rfl) (by kernel_rfl) ?_ | refine Rd.go 18 k53_VsKText a53_18_VsKText o53_18_VsKText mixed (by constructor) (by kernel_rfl) (by kernel_rfl) ?_); intro K hK) | with_reducible refine Rr.go [] (by constructor) ?_ | (with_reducible refine guardP_split (fun hg => ?_) fun hg => ?_) <;> (try simp only [hg]) <;> (try simp only [hgW] at hg) | (with_reducible refine callE_B3 c68 ?_)) <;> simp -implicitDefEqProofs only [eqOk_true, RJ.cells, hfl, hdn, a6, hen, hn, go_sem, simprocAttr] <;> try (simp (disch := omega) only [wrW, Go.IntWalk.i32_in]; try simp -implicitDefEqProofs only [RJ.cells, hfl, hdn, a6, hen, hn, go_sem, simprocAttr]))
           | with_reducible refine And.intro (by first | omega | (simp only [hgW]; omega)) ?_
           | (exfalso; omega)
          all_goals
            refine ⟨(n, i + 6, out ++ encB x), ?_, ⟨by simp only; omega, by simp only; omega, by simp only [List.length_append]; omega, hh⟩, by simp only; omega⟩
            simp -implicitDefEqProofs only [RJ.cells, e3, e4, List.map_append, hn, go_sem, simprocAttr]
            try rfl
        rw [if_neg hhi] at hh
        have hhi : 55296 ≤ x ∧ x ≤ 56319 := Classical.not_not.1 hhi
        have c54 := f54_ok ⟨b, i + 6, deep, nodes, err⟩ nb (OK (i + 6) (by omega)) [92, 117] (by decide)
        unfold wordC at c54
        simp only at c54
        have hw2 : (wordP b (i + 6) [92, 117]).2 = if (wordP b (i + 6) [92, 117]).1 = true then i + 8 else i + 6 := by
          unfold wordP
          split <;> simp
        have hw3 : (wordP b (i + 6) [92, 117]).1 = true → i + 8 ≤ b.length := fun h => by
          unfold wordP at h
          split at h
          · rename_i e
            have := congrArg List.length e
            simp only [List.length_take, List.length_drop, List.length_cons, List.length_nil] at this
            omega
          · cases h
        generalize wordP b (i + 6) [92, 117] = W at *
        obtain ⟨w1, w2⟩ := W
        simp only at hw2 hw3 c54 hh
        cases w1 with
        | false =>
          rw [if_pos rfl] at hh
          rw [if_neg (by decide)] at hw2
          subst hw2
          subst hh
          repeat' first
           | with_reducible refine Rl.go (by constructor <;> decide) ?_
           | ((with_reducible first | refine hK _ ?_ | refine hK.1 ?_ | refine hK.2 ?_); clear hK K)
           | ((with_reducible refine condS hK (fun hg => ?_) fun hg => ?_) <;> clear hK K <;> (try simp only [hgW] at hg) <;> try (exfalso; omega))
           | ((first | ((with_reducible first | refine Rk.go k53_VsKText (by constructor) ?_ | refine Rd.go 3 k53_VsKText a53_3_VsKText o53_3_VsKText mixed (by constructor) (by kernel_rfl) (by kernel_rfl) ?_ | refine Rd.go 5 k53_VsKText a53_5_VsKText o53_5_VsKText mixed (by constructor) (by kernel_rfl) (by kernel_rfl) ?_ | refine Rd.go 10 k53_VsKText a53_10_VsKText o53_10_VsKText mixed (by constructor) (by kernel_rfl) (by kernel_rfl) ?_ | refine Rd.go 13 k53_VsKText a53_13_VsKText o53_13_VsKText mixed (by constructor) (by kernel_rfl) (by kernel_rfl) ?_ | refine Rd.go 16 k53_VsKText a53_16_VsKText o53_16_VsKText mixed (by constructor) (by kernel_rfl) (by kernel_rfl) ?_ | refine Rd.go 18 k53_VsKText a53_18_VsKText o53_18_VsKText mixed (by constructor) (by kernel_rfl) (by kernel_rfl) ?_); intro K hK) | with_reducible refine Rr.go [] (by constructor) ?_ | (with_reducible refine guardP_split (fun hg => ?_) fun hg => ?_) <;> (try simp only [hg]) <;> (try simp only [hgW] at hg) | (with_reducible refine callE_B3 c68 ?_) | (with_reducible refine callE_B3 c54 ?_)) <;> simp -implicitDefEqProofs only [eqOk_true, RJ.cells, hfl, hdn, a6, hn, go_sem, simprocAttr] <;> try (simp (disch := omega) only [wrW, Go.IntWalk.i32_in]; try simp -implicitDefEqProofs only [RJ.cells, hfl, hdn, a6, hn, go_sem, simprocAttr]))
           | with_reducible refine And.intro (by first | omega | (simp only [hgW]; omega)) ?_
           | (exfalso; omega)
        | true =>
          rw [if_neg (by decide)] at hh
          rw [if_pos rfl] at hw2
          subst hw2
          by_cases hl8 : i + 8 ≤ b.length
          · have c68b := f68_ok ⟨b, i + 8, deep, nodes, err⟩ nb (OK (i + 8) hl8)
            have a12 : ((i + 8 + 4 : Nat) : Int) = ((i + 12 : Nat) : Int) := by omega
            cases hu2 : unitP b (i + 8) with
            | none =>
              rw [unitS_none hu2] at c68b
              rw [hu2] at hh
              simp only at hh c68b
              subst hh
              repeat' first
               | with_reducible refine Rl.go (by constructor <;> decide) ?_
               | ((with_reducible first | refine hK _ ?_ | refine hK.1 ?_ | refine hK.2 ?_); clear hK K)
               | ((with_reducible refine condS hK (fun hg => ?_) fun hg => ?_) <;> clear hK K <;> (try simp only [hgW] at hg) <;> try (exfalso; omega))
               | ((with_reducible refine callE_B3 c68 ?_); simp -implicitDefEqProofs only [eqOk_true, RJ.cells, hfl, hdn, a6, hn, go_sem, simprocAttr]; (skip; try (simp (disch := omega) only [wrW, Go.IntWalk.i32_in]; try simp -implicitDefEqProofs only [RJ.cells, hfl, hdn, a6, hn, go_sem, simprocAttr])); fail_if_success (with_reducible refine eqOk_mk ?_))
               | ((with_reducible refine callE_B3 c68b ?_); simp -implicitDefEqProofs only [eqOk_true, RJ.cells, hfl, hdn, a6, hn, go_sem, simprocAttr]; (skip; try (simp (disch := omega) only [wrW, Go.IntWalk.i32_in]; try simp -implicitDefEqProofs only [RJ.cells, hfl, hdn, a6, hn, go_sem, simprocAttr])); fail_if_success (with_reducible refine eqOk_mk ?_))
               | ((first | ((with_reducible first | refine Rk.go k53_VsKText (by constructor) ?_ | refine Rd.go 3 k53_VsKText a53_3_VsKText o53_3_VsKText mixed (by constructor) (by kernel_rfl) (by kernel_rfl) ?_ | refine Rd.go 5 k53_VsKText a53_5_VsKText o53_5_VsKText mixed (by constructor) (by kernel_rfl) (by kernel_rfl) ?_ | refine Rd.go 10 k53_VsKText a53_10_VsKText o53_10_VsKText mixed (by constructor) (by kernel_rfl) (by kernel_rfl) ?_ | refine Rd.go 13 k53_VsKText a53_13_VsKText o53_13_VsKText mixed (by constructor) (by kernel_rfl) (by kernel_rfl) ?_ | refine Rd.go 16 k53_VsKText a53_16_VsKText o53_16_VsKText mixed (by constructor) (by kernel_rfl) (by kernel_rfl) ?_ | refine Rd.go 18 k53_VsKText a53_18_VsKText o53_18_VsKText mixed (by constructor) (by kernel_rfl) (by kernel_rfl) ?_); intro K hK) | with_reducible refine Rr.go [] (by constructor) ?_ | (with_reducible refine guardP_split (fun hg => ?_) fun hg => ?_) <;> (try simp only [hg]) <;> (try simp only [hgW] at hg) | (with_reducible refine callE_B3 c54 ?_)) <;> simp -implicitDefEqProofs only [eqOk_true, RJ.cells, hfl, hdn, a6, hn, go_sem, simprocAttr] <;> try (simp (disch := omega) only [wrW, Go.IntWalk.i32_in]; try simp -implicitDefEqProofs only [RJ.cells, hfl, hdn, a6, hn, go_sem, simprocAttr]))
               | with_reducible refine And.intro (by first | omega | (simp only [hgW]; omega)) ?_
               | (exfalso; omega)
            | some y =>
              rw [unitS_some hu2] at c68b
              obtain ⟨hy, hy8⟩ := unitP_lt hu2
              rw [hu2] at hh
              simp only at hh c68b
              by_cases hyb : y < 56320 ∨ 57343 < y
              · rw [if_pos hyb] at hh
                subst hh
                repeat' first
                 | with_reducible refine Rl.go (by constructor <;> decide) ?_
                 | ((with_reducible first | refine hK _ ?_ | refine hK.1 ?_ | refine hK.2 ?_); clear hK K)
                 | ((with_reducible refine condS hK (fun hg => ?_) fun hg => ?_) <;> clear hK K <;> (try simp only [hgW] at hg) <;> try (exfalso; omega))
                 | ((with_reducible refine callE_B3 c68 ?_); simp -implicitDefEqProofs only [eqOk_true, RJ.cells, hfl, hdn, a6, a12, hn, go_sem, simprocAttr]; (skip; try (simp (disch := omega) only [wrW, Go.IntWalk.i32_in]; try simp -implicitDefEqProofs only [RJ.cells, hfl, hdn, a6, a12, hn, go_sem, simprocAttr])); fail_if_success (with_reducible refine eqOk_mk ?_))
                 | ((with_reducible refine callE_B3 c68b ?_); simp -implicitDefEqProofs only [eqOk_true, RJ.cells, hfl, hdn, a6, a12, hn, go_sem, simprocAttr]; (skip; try (simp (disch := omega) only [wrW, Go.IntWalk.i32_in]; try simp -implicitDefEqProofs only [RJ.cells, hfl, hdn, a6, a12, hn, go_sem, simprocAttr])); fail_if_success (with_reducible refine eqOk_mk ?_))
                 | ((first | ((with_reducible first | refine Rk.go k53_VsKText (by constructor) ?_ | refine Rd.go 3 k53_VsKText a53_3_VsKText o53_3_VsKText mixed (by constructor) (by kernel_rfl) (by kernel_rfl) ?_ | refine Rd.go 5 k53_VsKText a53_5_VsKText o53_5_VsKText mixed (by constructor) (by kernel_rfl) (by kernel_rfl) ?_ | refine Rd.go 10 k53_VsKText a53_10_VsKText o53_10_VsKText mixed (by constructor) (by kernel_rfl) (by kernel_rfl) ?_ | refine Rd.go 13 k53_VsKText a53_13_VsKText o53_13_VsKText mixed (by constructor) (by kernel_rfl) (by kernel_rfl) ?_ | refine Rd.go 16 k53_VsKText a53_16_VsKText o53_16_VsKText mixed (by constructor) (by kernel_rfl) (by kernel_rfl) ?_ | refine Rd.go 18 k53_VsKText a53_18_VsKText o53_18_VsKText mixed (by constructor) (by kernel_rfl) (by kernel_rfl) ?_); intro K hK) | with_reducible refine Rr.go [] (by constructor) ?_ | (with_reducible refine guardP_split (fun hg => ?_) fun hg => ?_) <;> (try simp only [hg]) <;> (try simp only [hgW] at hg) | (with_reducible refine callE_B3 c54 ?_)) <;> simp -implicitDefEqProofs only [eqOk_true, RJ.cells, hfl, hdn, a6, a12, hn, go_sem, simprocAttr] <;> try (simp (disch := omega) only [wrW, Go.IntWalk.i32_in]; try simp -implicitDefEqProofs only [RJ.cells, hfl, hdn, a6, a12, hn, go_sem, simprocAttr]))
                 | with_reducible refine And.intro (by first | omega | (simp only [hgW]; omega)) ?_
                 | (exfalso; omega)
              · rw [if_neg hyb] at hh
                obtain ⟨z, hz⟩ : ∃ z, 65536 + (x - 55296) * 1024 + y - 56320 = z := ⟨_, rfl⟩
                rw [hz] at hh
                have ez : 65536 + ((x : Int) - 55296) * 1024 + (y : Int) - 56320 = (z : Int) := by omega
                have hen := enc_eq z (by omega) (by omega)
                have hel := encB_len z
                have e3 := app_ne out (encB z) hel.1
                have e4 := app_ne2 out (encB z) hel.1
                repeat' first
                 | with_reducible refine Rl.go (by constructor <;> decide) ?_
                 | ((with_reducible first | refine hK _ ?_ | refine hK.1 ?_ | refine hK.2 ?_); clear hK K)
                 | ((with_reducible refine condS hK (fun hg => ?_) fun hg => ?_) <;> clear hK K <;> (try simp only [hgW] at hg) <;> try (exfalso; omega))
                 | ((with_reducible refine callE_B3 c68 ?_); simp -implicitDefEqProofs only [eqOk_true, RJ.cells, hfl, hdn, a6, a12, ez, hen, hn, go_sem, simprocAttr]; (skip; try (simp (disch := omega) only [wrW, Go.IntWalk.i32_in]; try simp -implicitDefEqProofs only [RJ.cells, hfl, hdn, a6, a12, ez, hen, hn, go_sem, simprocAttr])); fail_if_success (with_reducible refine eqOk_mk ?_))
                 | ((with_reducible refine callE_B3 c68b ?_); simp -implicitDefEqProofs only [eqOk_true, RJ.cells, hfl, hdn, a6, a12, ez, hen, hn, go_sem, simprocAttr]; (skip; try (simp (disch := omega) only [wrW, Go.IntWalk.i32_in]; try simp -implicitDefEqProofs only [RJ.cells, hfl, hdn, a6, a12, ez, hen, hn, go_sem, simprocAttr])); fail_if_success (with_reducible refine eqOk_mk ?_))
                 | ((first | ((with_reducible first | refine Rk.go k53_VsKText (by constructor) ?_ | refine Rd.go 3 k53_VsKText a53_3_VsKText o53_3_VsKText mixed (by constructor) (by kernel_rfl) (by kernel_rfl) ?_ | refine Rd.go 5 k53_VsKText a53_5_VsKText o53_5_VsKText mixed (by constructor) (by kernel_rfl) (by kernel_rfl) ?_ | refine Rd.go 10 k53_VsKText a53_10_VsKText o53_10_VsKText mixed (by constructor) (by kernel_rfl) (by kernel_rfl) ?_ | refine Rd.go 13 k53_VsKText a53_13_VsKText o53_13_VsKText mixed (by constructor) (by kernel_rfl) (by kernel_rfl) ?_ | refine Rd.go 16 k53_VsKText a53_16_VsKText o53_16_VsKText mixed (by constructor) (by kernel_rfl) (by kernel_rfl) ?_ | refine Rd.go 18 k53_VsKText a53_18_VsKText o53_18_VsKText mixed (by constructor) (by kernel_rfl) (by kernel_rfl) ?_); intro K hK) | with_reducible refine Rr.go [] (by constructor) ?_ | (with_reducible refine guardP_split (fun hg => ?_) fun hg => ?_) <;> (try simp only [hg]) <;> (try simp only [hgW] at hg) | (with_reducible refine callE_B3 c54 ?_)) <;> simp -implicitDefEqProofs only [eqOk_true, RJ.cells, hfl, hdn, a6, a12, ez, hen, hn, go_sem, simprocAttr] <;> try (simp (disch := omega) only [wrW, Go.IntWalk.i32_in]; try simp -implicitDefEqProofs only [RJ.cells, hfl, hdn, a6, a12, ez, hen, hn, go_sem, simprocAttr]))
                 | with_reducible refine And.intro (by first | omega | (simp only [hgW]; omega)) ?_
                 | (exfalso; omega)
                all_goals
                  refine ⟨(n, i + 12, out ++ encB z), ?_, ⟨by simp only; omega, by simp only; omega, by simp only [List.length_append]; omega, hh⟩, by simp only; omega⟩
                  simp -implicitDefEqProofs only [RJ.cells, e3, e4, List.map_append, hn, go_sem, simprocAttr]
                  try rfl
          · exact (hl8 (hw3 rfl)).elim
  · obtain ⟨x, hx⟩ : ∃ x, escFrom.getD k default = x := ⟨_, rfl⟩
    have hxs : escFrom[k]? = some x := by
      rw [← hx, List.getD_eq_getElem?_getD, List.getElem?_eq_getElem (show k < escFrom.length by rw [hfl]; omega)]; rfl
    obtain ⟨t, ht⟩ : ∃ t, escTo.getD k default = t := ⟨_, rfl⟩
    have hts : escTo[k]? = some t := by
      rw [← ht, List.getD_eq_getElem?_getD, List.getElem?_eq_getElem (show k < escTo.length by rw [htl]; omega)]; rfl
    by_cases hxd : x = d
    · have hok : o = some k := by
        rw [← hO, ← hxd, ← hx]
        exact esc_distinct ⟨k, by omega⟩
      subst hok
      have z1 : PL k = false := by rw [hPL]; simp
      have z2 : OU k = out := by rw [hOU]; simp
      have z3 : PL (k + 1) = true := by rw [hPL]; simp
      have z4 : OU (k + 1) = out ++ [t] := by rw [hOU]; simp only; rw [if_pos (by omega), ht]
      rw [z1, z2]
      have hxn : (x.toNat : Int) = (d.toNat : Int) := by rw [hxd]
      repeat' first
       | with_reducible refine Rl.go (by constructor <;> decide) ?_
       | ((with_reducible first | refine hK _ ?_ | refine hK.1 ?_ | refine hK.2 ?_); clear hK K)
       | ((with_reducible refine condS hK (fun hg => ?_) fun hg => ?_) <;> clear hK K <;> (try simp only [hgW] at hg) <;> try (exfalso; omega))
       | ((first | ((with_reducible first | refine Rk.go k53_VsKText (by constructor) ?_ | refine Rd.go 3 k53_VsKText a53_3_VsKText o53_3_VsKText mixed (by constructor) (by kernel_rfl) (by kernel_rfl) ?_ | refine Rd.go 5 k53_VsKText a53_5_VsKText o53_5_VsKText mixed (by constructor) (by kernel_rfl) (by kernel_rfl) ?_ | refine Rd.go 10 k53_VsKText a53_10_VsKText o53_10_VsKText mixed (by constructor) (by kernel_rfl) (by kernel_rfl) ?_ | refine Rd.go 13 k53_VsKText a53_13_VsKText o53_13_VsKText mixed (by constructor) (by kernel_rfl) (by kernel_rfl) ?_ | refine Rd.go 16 k53_VsKText a53_16_VsKText o53_16_VsKText mixed (by constructor) (by kernel_rfl) (by kernel_rfl) ?_ | refine Rd.go 18 k53_VsKText a53_18_VsKText o53_18_VsKText mixed (by constructor) (by kernel_rfl) (by kernel_rfl) ?_); intro K hK) | with_reducible refine Rr.go [] (by constructor) ?_ | (with_reducible refine guardP_split (fun hg => ?_) fun hg => ?_) <;> (try simp only [hg]) <;> (try simp only [hgW] at hg)) <;> simp -implicitDefEqProofs only [RJ.cells, u8, hxs, hts, hfl, htl, hxn, hn, go_sem, simprocAttr] <;> try (simp (disch := omega) only [wrW, Go.IntWalk.i32_in]; try simp -implicitDefEqProofs only [RJ.cells, u8, hxs, hts, hfl, htl, hxn, hn, go_sem, simprocAttr]))
       | with_reducible refine And.intro (by first | omega | (simp only [hgW]; omega)) ?_
       | (exfalso; omega)
      refine ⟨k + 1, ?_, by omega, by omega⟩
      rw [ek, z3, z4]
      simp -implicitDefEqProofs only [RJ.cells, snoc_ne, List.map_append, u8, hn, go_sem, simprocAttr]
      try rfl
    · have hok : ∀ j, o = some j → j ≠ k := fun j hj e => by
        have := (idxB_lt _ _ _ (hO.trans hj)).2
        rw [e, hx] at this
        exact hxd this
      have z3 : PL (k + 1) = PL k := by
        rw [hPL]
        cases o with
        | none => rfl
        | some j => have := hok j rfl; simp only; congr 1; exact propext ⟨fun h => by omega, fun h => by omega⟩
      have z4 : OU (k + 1) = OU k := by
        rw [hOU]
        cases o with
        | none => rfl
        | some j =>
          have := hok j rfl
          simp only
          by_cases h : j < k
          · rw [if_pos h, if_pos (by omega)]
          · rw [if_neg h, if_neg (by omega)]
      have hxn : ¬ (x.toNat : Int) = (d.toNat : Int) := fun hh => hxd (UInt8.toNat_inj.1 (by omega))
      repeat' first
       | with_reducible refine Rl.go (by constructor <;> decide) ?_
       | ((with_reducible first | refine hK _ ?_ | refine hK.1 ?_ | refine hK.2 ?_); clear hK K)
       | ((with_reducible refine condS hK (fun hg => ?_) fun hg => ?_) <;> clear hK K <;> (try simp only [hgW] at hg) <;> try (exfalso; omega))
       | ((first | ((with_reducible first | refine Rk.go k53_VsKText (by constructor) ?_ | refine Rd.go 3 k53_VsKText a53_3_VsKText o53_3_VsKText mixed (by constructor) (by kernel_rfl) (by kernel_rfl) ?_ | refine Rd.go 5 k53_VsKText a53_5_VsKText o53_5_VsKText mixed (by constructor) (by kernel_rfl) (by kernel_rfl) ?_ | refine Rd.go 10 k53_VsKText a53_10_VsKText o53_10_VsKText mixed (by constructor) (by kernel_rfl) (by kernel_rfl) ?_ | refine Rd.go 13 k53_VsKText a53_13_VsKText o53_13_VsKText mixed (by constructor) (by kernel_rfl) (by kernel_rfl) ?_ | refine Rd.go 16 k53_VsKText a53_16_VsKText o53_16_VsKText mixed (by constructor) (by kernel_rfl) (by kernel_rfl) ?_ | refine Rd.go 18 k53_VsKText a53_18_VsKText o53_18_VsKText mixed (by constructor) (by kernel_rfl) (by kernel_rfl) ?_); intro K hK) | with_reducible refine Rr.go [] (by constructor) ?_ | (with_reducible refine guardP_split (fun hg => ?_) fun hg => ?_) <;> (try simp only [hg]) <;> (try simp only [hgW] at hg)) <;> simp -implicitDefEqProofs only [RJ.cells, u8, hxs, hts, hfl, htl, hxn, hn, go_sem, simprocAttr] <;> try (simp (disch := omega) only [wrW, Go.IntWalk.i32_in]; try simp -implicitDefEqProofs only [RJ.cells, u8, hxs, hts, hfl, htl, hxn, hn, go_sem, simprocAttr]))
       | with_reducible refine And.intro (by first | omega | (simp only [hgW]; omega)) ?_
       | (exfalso; omega)
      refine ⟨k + 1, ?_, by omega, by omega⟩
      rw [ek, z3, z4]
      simp -implicitDefEqProofs only [RJ.cells, hn, go_sem, simprocAttr]
      try rfl
end Go.Proofs.YtfemncfhiihckaaDoor
