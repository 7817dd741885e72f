/- What the document's small functions come to: a fault, a key, which key stands ahead, whether items are the same. -/
import Derived.Test.YtijcpdgfbboamaaDoorVsCRefS
import Derived.Test.YtijcpdgfbboamaaDoorVsCHead
open Go Go.VS
namespace Go.Proofs.YtijcpdgfbboamaaDoor
set_option linter.unusedVariables false
set_option linter.unusedSimpArgs false
set_option maxRecDepth 20000
set_option maxHeartbeats 4000000
theorem av_mk' (k n : Nat) (bn : Bool) (b : List UInt8) (kn : Bool) (ks : List CI) : (CI.mk k n bn b kn ks).av = .agg [.int .u8 (k : Int), .int .u64 (n : Int), .sl none bn 1 (b.map u8), .sl none kn 4 (ks.map CI.av)] := by
  rw [CI.av, avs_map]
theorem less_cmp : ∀ (a b : List UInt8), Op.bytesLess a b = decide (cmpB a b < 0)
  | [], [] => rfl
  | [], _ :: _ => rfl
  | _ :: _, [] => rfl
  | x :: xs, y :: ys => by
    simp only [Op.bytesLess, cmpB, less_cmp xs ys]
    by_cases h : x < y
    · simp [h]
    · by_cases h2 : y < x
      · have h3 : ¬ x = y := fun e => by subst e; exact h h2
        simp [h, h2, h3]
      · have h3 : x = y := by
          have a1 : ¬ x.toNat < y.toNat := h
          have a2 : ¬ y.toNat < x.toNat := h2
          exact UInt8.toNat_inj.1 (by omega)
        simp [h3]
def k54_VsCRef : List Nat := [0,1,8]
attribute [go_sem] k54_VsCRef
theorem f54_ok (s : RS) (nb : Bool) (e : Nat) : CallsB Tryd.prog 54 [.ptr 1000000 0, .int .i64 (e : Int)] [s.cells nb] (.tup []) [(s.fail e).cells nb] := by
  obtain ⟨b, items, err⟩ := s
  refine CallsB.introF Tryd.func54 rfl (by show 2 ≤ 13; decide) ?_
  rintro X hX
  have hn : X.n = 13 := hX
  unfold Tryd.f54
  dsimp only
  rw [entryB21]
  repeat' first
   | with_reducible refine Rl.go (by constructor <;> decide) ?_
   | ((with_reducible first | refine hK _ ?_ | refine hK.1 ?_ | refine hK.2 ?_); clear hK K)
   | ((with_reducible refine condS hK (fun hg => ?_) fun hg => ?_) <;> clear hK K <;> (try simp only [hgW] at hg) <;> try (exfalso; omega))
   | ((first | ((with_reducible first | refine Rk.go k54_VsCRef (by constructor) ?_); intro K hK) | with_reducible refine Rr.go [] (by constructor) ?_ | (with_reducible refine guardP_split (fun hg => ?_) fun hg => ?_) <;> (try simp only [hg]) <;> (try simp only [hgW] at hg)) <;> simp -implicitDefEqProofs only [RS.cells, Int.cast_ofNat_Int, hn, go_sem, simprocAttr] <;> try simp (disch := omega) only [wrW])
   | with_reducible refine And.intro (by first | omega | (simp only [hgW]; omega)) ?_
   | (exfalso; omega)
  · rw [RS.fail_0 _ _ (by simp only; omega)]
  · rw [RS.fail_n _ _ (by simp only; omega)]
def k46_VsCRef : List Nat := [0,1,2]
attribute [go_sem] k46_VsCRef
theorem f46_ok (i : CI) : CallsP Tryd.prog 46 [i.av] (.bool (plainS i)) := by
  obtain ⟨k, n, bn, b, kn, ks⟩ := i
  have e : plainS (.mk k n bn b kn ks) = (decide (1 ≤ k) && decide (k ≤ 4)) := rfl
  simp only [CI.av]
  refine CallsP.intro Tryd.func46 rfl (by show 1 ≤ 11; decide) ?_
  rintro X hX
  have hn : X.n = 11 := hX
  unfold Tryd.f46
  dsimp only
  rw [entry1]
  repeat' first
   | with_reducible refine Rl.go (by constructor <;> decide) ?_
   | ((with_reducible first | refine hK _ ?_ | refine hK.1 ?_ | refine hK.2 ?_); clear hK K)
   | ((with_reducible refine condS hK (fun hg => ?_) fun hg => ?_) <;> clear hK K <;> (try simp only [hgW] at hg) <;> try (exfalso; omega))
   | ((first | ((with_reducible first | refine Rk.go k46_VsCRef (by constructor) ?_); intro K hK) | with_reducible refine Rr.go [] (by constructor) ?_ | (with_reducible refine guardP_split (fun hg => ?_) fun hg => ?_) <;> (try simp only [hg]) <;> (try simp only [hgW] at hg)) <;> simp -implicitDefEqProofs only [Int.cast_ofNat_Int, hn, go_sem, simprocAttr] <;> try simp (disch := omega) only [wrW])
   | with_reducible refine And.intro (by first | omega | (simp only [hgW]; omega)) ?_
   | (exfalso; omega)
  · rw [e, decide_eq_true (show 1 ≤ k by omega), Bool.true_and]
    congr 1
    exact decide_eq_decide.2 (by omega)
  · rw [e, decide_eq_false (show ¬ 1 ≤ k by omega), Bool.false_and]
def k36_VsCRef : List Nat := [0,1,2,3,4,9,22,34]
attribute [go_sem] k36_VsCRef
theorem f36_ok (i j : CI) : CallsP Tryd.prog 36 [i.av, j.av] (.bool (aheadS i j)) := by
  obtain ⟨k, n, bn, b, kn, ks⟩ := i
  obtain ⟨k', n', bn', b', kn', ks'⟩ := j
  have e : aheadS (.mk k n bn b kn ks) (.mk k' n' bn' b' kn' ks') = if k ≠ k' then decide (k < k') else if k = 1 ∨ k = 2 then decide (n < n') else if b.length ≠ b'.length then decide (b.length < b'.length) else decide (cmpB b b' < 0) := rfl
  simp only [CI.av]
  refine CallsP.intro Tryd.func36 rfl (by show 2 ≤ 49; decide) ?_
  rintro X hX
  have hn : X.n = 49 := hX
  unfold Tryd.f36
  dsimp only
  rw [entry2]
  repeat' first
   | with_reducible refine Rl.go (by constructor <;> decide) ?_
   | ((with_reducible first | refine hK _ ?_ | refine hK.1 ?_ | refine hK.2 ?_); clear hK K)
   | ((with_reducible refine condS hK (fun hg => ?_) fun hg => ?_) <;> clear hK K <;> (try simp only [hgW] at hg) <;> try (exfalso; omega))
   | ((first | ((with_reducible first | refine Rk.go k36_VsCRef (by constructor) ?_); intro K hK) | with_reducible refine Rr.go [] (by constructor) ?_ | (with_reducible refine guardP_split (fun hg => ?_) fun hg => ?_) <;> (try simp only [hg]) <;> (try simp only [hgW] at hg)) <;> simp -implicitDefEqProofs only [Int.cast_ofNat_Int, hn, go_sem, simprocAttr] <;> try simp (disch := omega) only [wrW])
   | with_reducible refine And.intro (by first | omega | (simp only [hgW]; omega)) ?_
   | (exfalso; omega)
  all_goals rw [e]
  all_goals repeat (first | rw [if_pos (by omega)] | rw [if_neg (by omega)])
  all_goals congr 1
  all_goals first | (exact decide_eq_decide.2 (by omega)) | exact less_cmp b b'
def k27_VsCRef : List Nat := [0,1,2,3,4,5,35,40,54]
def a27_6_VsCRef : List Nat := [0,1,0,7,15,0,32,0,224,480,1023,2047]
def o27_6_VsCRef : List Nat := [0,1,2,3,4,5,6,7,8,9,10,11]
attribute [go_sem] k27_VsCRef a27_6_VsCRef o27_6_VsCRef
theorem f27_one (k n : Nat) (bn : Bool) (b : List UInt8) (kn : Bool) (ks : List CI) (hks : ks.length ≤ 10000) (ih : ∀ y ∈ ks, CallsP Tryd.prog 27 [y.av, y.av] (.bool true)) :
    CallsP Tryd.prog 27 [(CI.mk k n bn b kn ks).av, (CI.mk k n bn b kn ks).av] (.bool true) := by
  simp only [av_mk']
  refine CallsP.intro Tryd.func27 rfl (by show 2 ≤ 55; decide) ?_
  rintro X hX
  have hn : X.n = 55 := hX
  unfold Tryd.f27
  dsimp only
  rw [entry2]
  repeat' first
   | with_reducible refine Rl.go (by constructor <;> decide) ?_
   | ((with_reducible first | refine hK _ ?_ | refine hK.1 ?_ | refine hK.2 ?_); clear hK K)
   | ((with_reducible refine condS hK (fun hg => ?_) fun hg => ?_) <;> clear hK K <;> (try simp only [hgW] at hg) <;> try (exfalso; omega))
   | ((first | ((with_reducible first | refine Rk.go k27_VsCRef (by constructor) ?_ | refine Rd.go 6 k27_VsCRef a27_6_VsCRef o27_6_VsCRef mixed (by constructor) (by kernel_rfl) (by kernel_rfl) ?_); intro K hK) | with_reducible refine Rr.go [] (by constructor) ?_ | (with_reducible refine guardP_split (fun hg => ?_) fun hg => ?_) <;> (try simp only [hg]) <;> (try simp only [hgW] at hg)) <;> simp -implicitDefEqProofs only [Int.cast_ofNat_Int, hn, go_sem, simprocAttr] <;> try simp (disch := omega) only [wrW])
   | with_reducible refine And.intro (by first | omega | (simp only [hgW]; omega)) ?_
   | (exfalso; omega)
  refine AWP.loopX [2, 3, 4, 5] [] (fun i : Nat => St.mk (lk [(2, .ptr 2 0), (3, .ptr 3 0), (4, .bool false), (5, .int .i64 (i : Int))])
      (lkB [(2, [.int .u8 (k : Int), .int .u64 (n : Int), .sl none bn 1 (b.map u8), .sl none kn 4 (ks.map CI.av)]), (3, [.int .u8 (k : Int), .int .u64 (n : Int), .sl none bn 1 (b.map u8), .sl none kn 4 (ks.map CI.av)])]) (hasS []) (hasS []) (hasN []) (lkR []))
    (fun i => i ≤ ks.length) (fun i => ks.length - i) 0 ?_ (Nat.zero_le _) ?_
  · simp -implicitDefEqProofs only [Int.cast_ofNat_Int, hn, go_sem, simprocAttr]
    try rfl
  rintro i hi
  by_cases hiL : i = ks.length
  · subst hiL
    repeat' first
     | with_reducible refine Rl.go (by constructor <;> decide) ?_
     | ((with_reducible first | refine hK _ ?_ | refine hK.1 ?_ | refine hK.2 ?_); clear hK K)
     | ((with_reducible refine condS hK (fun hg => ?_) fun hg => ?_) <;> clear hK K <;> (try simp only [hgW] at hg) <;> try (exfalso; omega))
     | ((first | ((with_reducible first | refine Rk.go k27_VsCRef (by constructor) ?_ | refine Rd.go 6 k27_VsCRef a27_6_VsCRef o27_6_VsCRef mixed (by constructor) (by kernel_rfl) (by kernel_rfl) ?_); intro K hK) | with_reducible refine Rr.go [] (by constructor) ?_ | (with_reducible refine guardP_split (fun hg => ?_) fun hg => ?_) <;> (try simp only [hg]) <;> (try simp only [hgW] at hg)) <;> simp -implicitDefEqProofs only [Int.cast_ofNat_Int, hn, go_sem, simprocAttr] <;> try simp (disch := omega) only [wrW])
     | with_reducible refine And.intro (by first | omega | (simp only [hgW]; omega)) ?_
     | (exfalso; omega)
  · have hlt : i < ks.length := by omega
    obtain ⟨y, hy⟩ : ∃ y, ks[i]? = some y := ⟨_, List.getElem?_eq_getElem hlt⟩
    have hym : y ∈ ks := List.mem_of_getElem? hy
    have c := ih y hym
    have hd : ks.getD i default = y := by rw [List.getD_eq_getElem?_getD, hy]; rfl
    obtain ⟨yk, yn, ybn, yb, ykn, yks⟩ := y
    simp only [av_mk'] at c
    repeat' first
     | with_reducible refine Rl.go (by constructor <;> decide) ?_
     | ((with_reducible first | refine hK _ ?_ | refine hK.1 ?_ | refine hK.2 ?_); clear hK K)
     | ((with_reducible refine condS hK (fun hg => ?_) fun hg => ?_) <;> clear hK K <;> (try simp only [hgW] at hg) <;> try (exfalso; omega))
     | ((first | ((with_reducible first | refine Rk.go k27_VsCRef (by constructor) ?_ | refine Rd.go 6 k27_VsCRef a27_6_VsCRef o27_6_VsCRef mixed (by constructor) (by kernel_rfl) (by kernel_rfl) ?_); intro K hK) | with_reducible refine Rr.go [] (by constructor) ?_ | (with_reducible refine guardP_split (fun hg => ?_) fun hg => ?_) <;> (try simp only [hg]) <;> (try simp only [hgW] at hg) | refine Rc.go c (by constructor) ?_) <;> simp -implicitDefEqProofs only [hd, av_mk', Int.cast_ofNat_Int, hn, go_sem, simprocAttr] <;> try simp (disch := omega) only [wrW])
     | with_reducible refine And.intro (by first | omega | (simp only [hgW]; omega)) ?_
     | (exfalso; omega)
    refine ⟨i + 1, ?_, by omega, by omega⟩
    have e2 : (i : Int) + 1 = ((i + 1 : Nat) : Int) := by omega
    rw [e2]
    simp -implicitDefEqProofs only [Int.cast_ofNat_Int, hn, go_sem, simprocAttr]
    try rfl
theorem f27_ok : ∀ (d : Nat) (x : CI), Wide d x → CallsP Tryd.prog 27 [x.av, x.av] (.bool true)
  | 0, x, h => by
    obtain ⟨k, n, bn, b, kn, ks⟩ := x
    have h : ks = [] := h
    exact f27_one k n bn b kn ks (by rw [h]; exact Nat.zero_le _) (fun y hy => by rw [h] at hy; cases hy)
  | d + 1, x, h => by
    obtain ⟨k, n, bn, b, kn, ks⟩ := x
    exact f27_one k n bn b kn ks h.1 (fun y hy => f27_ok d y (h.2 y hy))
end Go.Proofs.YtijcpdgfbboamaaDoor
open Go Go.VS
namespace Go.Proofs.YtijcpdgfbboamaaDoor
set_option linter.unusedVariables false
set_option linter.unusedSimpArgs false
set_option maxRecDepth 20000
set_option maxHeartbeats 4000000
/-- The contract of one item of the document's, at a depth. -/
def ItROk (it : RS → CI × RS) (deep : Nat) : Prop := ∀ s : RS, s.err = 0 → s.b.length ≤ 100000 → s.items ≤ 10000 → CallsB Tryd.prog 43 [.ptr 1000000 0, .int .i64 (deep : Int)] [s.cells false] (it s).1.av [(it s).2.cells false]
structure KeepsR (it : RS → CI × RS) : Prop where
  len : ∀ s, s.err = 0 → (it s).2.err = 0 → (it s).2.b.length ≤ s.b.length
  more : ∀ s, s.err = 0 → (it s).2.err = 0 → s.items + 1 ≤ (it s).2.items ∧ (it s).2.items ≤ 512
structure GrpI (it : RS → CI × RS) (pair : Bool) (n : Nat) (R : CI × RS) (x : Nat × RS × List CI) : Prop where
  le : x.1 ≤ n
  eq : grpR it pair (n - x.1) x.2.1 x.2.2 = R
  ok : x.2.1.err = 0 → x.2.1.items ≤ 512 ∧ x.2.1.b.length ≤ 100000 ∧ x.2.2.length ≤ x.2.1.items ∧ (pair = true → x.2.2.length = 2 * x.1)
def k55_VsCRef2 : List Nat := [0,1,2,3,8,9,10,11,12,14,25,45,48,65]
def a55_12_VsCRef2 : List Nat := [0,1,3,7,15,7,39,103,231,511,1023,7,4095,8191,16383]
def o55_12_VsCRef2 : List Nat := [0,1,2,3,4,5,6,7,8,9,10,11,12,13,14]
attribute [go_sem] k55_VsCRef2 a55_12_VsCRef2 o55_12_VsCRef2
theorem f55_a {it : RS → CI × RS} (K : KeepsR it) (deep : Nat) (hit : ItROk it deep) (n : Nat) (hn64 : n < 18446744073709551616) (s : RS) (he : s.err = 0) (hi : s.items ≤ 512) (hl : s.b.length ≤ 100000) :
    CallsB Tryd.prog 55 [.ptr 1000000 0, .bool false, .int .u64 (n : Int), .int .i64 (deep : Int)] [s.cells false] (grpR it false n s []).1.av [(grpR it false n s []).2.cells false] := by
  obtain ⟨R, hR⟩ : ∃ R, grpR it false n s [] = R := ⟨_, rfl⟩
  rw [hR]
  refine CallsB.introF Tryd.func55 rfl (by show 4 ≤ 78; decide) ?_
  rintro X hX
  have hn : X.n = 78 := hX
  unfold Tryd.f55
  dsimp only
  rw [entryB41]
  repeat' first
   | with_reducible refine Rl.go (by constructor <;> decide) ?_
   | ((with_reducible first | refine hK _ ?_ | refine hK.1 ?_ | refine hK.2 ?_); clear hK K)
   | ((with_reducible refine condS hK (fun hg => ?_) fun hg => ?_) <;> clear hK K <;> (try simp only [hgW] at hg) <;> try (exfalso; omega))
   | ((first | ((with_reducible first | refine Rk.go k55_VsCRef2 (by constructor) ?_ | refine Rd.go 12 k55_VsCRef2 a55_12_VsCRef2 o55_12_VsCRef2 mixed (by constructor) (by kernel_rfl) (by kernel_rfl) ?_); intro K hK) | with_reducible refine Rr.go [] (by constructor) ?_ | (with_reducible refine guardP_split (fun hg => ?_) fun hg => ?_) <;> (try simp only [hg]) <;> (try simp only [hgW] at hg)) <;> simp -implicitDefEqProofs only [RS.cells, Int.cast_ofNat_Int, hn, go_sem, simprocAttr] <;> try simp (disch := omega) only [wrW])
   | with_reducible refine And.intro (by first | omega | (simp only [hgW]; omega)) ?_
   | (exfalso; omega)
  refine AWP.adoptB 9 3 (0, 999) 0 4 (by rfl) (by rfl) ?_
  refine AWP.loopX [0, 1, 2, 3, 8, 9, 10] [11] (fun x : Nat × RS × List CI => St.mk (lk [(0, .ptr 1000000 0), (1, .bool false), (2, .int .u64 (n : Int)), (3, .int .i64 (deep : Int)), (8, .ptr 8 0), (9, .ptr 9 0), (10, .int .u64 (x.1 : Int))])
      (lkB [(1000000, x.2.1.cells false), (8, [.int .u8 0, .int .u64 0, .sl none true 1 [], .sl none true 4 []]), (9, [.int .u8 5, .int .u64 0, .sl none true 1 [], .sl (some ((0, 999), 0)) x.2.2.isEmpty 4 (x.2.2.map CI.av)])]) (hasS []) (hasS []) (hasN []) (lkR []))
    (GrpI it false n R) (fun x => n - x.1) (0, s, []) ?_ ⟨Nat.zero_le _, hR, fun _ => ⟨hi, hl, Nat.zero_le _, fun h => by cases h⟩⟩ ?_
  · simp -implicitDefEqProofs only [RS.cells, Int.cast_ofNat_Int, hn, go_sem, simprocAttr]
    try rfl
  rintro ⟨k, ⟨b, items, err⟩, ks⟩ hx
  obtain ⟨x1, x2, x3⟩ := hx
  simp only at x1 x2 x3
  by_cases hkn : k = n
  · subst hkn
    rw [Nat.sub_self] at x2
    simp only [grpR] at x2
    subst x2
    repeat' first
     | with_reducible refine Rl.go (by constructor <;> decide) ?_
     | ((with_reducible first | refine hK _ ?_ | refine hK.1 ?_ | refine hK.2 ?_); clear hK K)
     | ((with_reducible refine condS hK (fun hg => ?_) fun hg => ?_) <;> clear hK K <;> (try simp only [hgW] at hg) <;> try (exfalso; omega))
     | ((first | ((with_reducible first | refine Rk.go k55_VsCRef2 (by constructor) ?_ | refine Rd.go 12 k55_VsCRef2 a55_12_VsCRef2 o55_12_VsCRef2 mixed (by constructor) (by kernel_rfl) (by kernel_rfl) ?_); intro K hK) | with_reducible refine Rr.go [] (by constructor) ?_ | (with_reducible refine guardP_split (fun hg => ?_) fun hg => ?_) <;> (try simp only [hg]) <;> (try simp only [hgW] at hg)) <;> simp -implicitDefEqProofs only [RS.cells, av_mk', Int.cast_ofNat_Int, hn, go_sem, simprocAttr] <;> try simp (disch := omega) only [wrW])
     | with_reducible refine And.intro (by first | omega | (simp only [hgW]; omega)) ?_
     | (exfalso; omega)
  · have hx0 : n - k = (n - (k + 1)) + 1 := by omega
    rw [hx0] at x2
    simp only [grpR] at x2
    by_cases he0 : err = 0
    · subst he0
      obtain ⟨y1, y2, y3, -⟩ := x3 rfl
      rw [if_neg (by simp), if_pos (Or.inl trivial)] at x2
      have c43 := hit ⟨b, items, 0⟩ rfl y2 (by simp only; omega)
      have k1 := K.len ⟨b, items, 0⟩ rfl
      have k2 := K.more ⟨b, items, 0⟩ rfl
      generalize it ⟨b, items, 0⟩ = p at *
      obtain ⟨⟨ki, ni, bni, bi, kni, kids⟩, ⟨b', items', err'⟩⟩ := p
      simp only at *
      repeat' first
       | with_reducible refine Rl.go (by constructor <;> decide) ?_
       | ((with_reducible first | refine hK _ ?_ | refine hK.1 ?_ | refine hK.2 ?_); clear hK K)
       | ((with_reducible refine condS hK (fun hg => ?_) fun hg => ?_) <;> clear hK K <;> (try simp only [hgW] at hg) <;> try (exfalso; omega))
       | ((with_reducible refine callE_B3 c43 ?_); simp -implicitDefEqProofs only [eqOk_true, RS.cells, av_mk', Int.cast_ofNat_Int, hn, go_sem, simprocAttr]; (skip; try simp (disch := omega) only [wrW]); fail_if_success (with_reducible refine eqOk_mk ?_))
       | ((first | ((with_reducible first | refine Rk.go k55_VsCRef2 (by constructor) ?_ | refine Rd.go 12 k55_VsCRef2 a55_12_VsCRef2 o55_12_VsCRef2 mixed (by constructor) (by kernel_rfl) (by kernel_rfl) ?_); intro K hK) | with_reducible refine Rr.go [] (by constructor) ?_ | (with_reducible refine guardP_split (fun hg => ?_) fun hg => ?_) <;> (try simp only [hg]) <;> (try simp only [hgW] at hg)) <;> simp -implicitDefEqProofs only [RS.cells, av_mk', Int.cast_ofNat_Int, hn, go_sem, simprocAttr] <;> try simp (disch := omega) only [wrW])
       | with_reducible refine And.intro (by first | omega | (simp only [hgW]; omega)) ?_
       | (exfalso; omega)
      refine ⟨(k + 1, ⟨b', items', err'⟩, ks ++ [CI.mk ki ni bni bi kni kids]), ?_, ⟨by simp only; omega, x2, fun h => ⟨(k2 h).2, by have := k1 h; simp only at this ⊢; omega, by have := k2 h; simp only [List.length_append, List.length_cons, List.length_nil]; omega, fun h => by cases h⟩⟩, by simp only; omega⟩
      have e1 : ks.map CI.av ++ [AV.agg [.int .u8 (ki : Int), .int .u64 (ni : Int), .sl none bni 1 (bi.map u8), .sl none kni 4 (kids.map CI.av)]] = (ks ++ [CI.mk ki ni bni bi kni kids]).map CI.av := by
        rw [List.map_append, List.map_cons, List.map_nil, av_mk']
      have e2 : (k : Int) + 1 = ((k + 1 : Nat) : Int) := by omega
      have e3 : (ks ++ [CI.mk ki ni bni bi kni kids]).isEmpty = false := by simp
      rw [e1, e2]
      simp -implicitDefEqProofs only [RS.cells, e3, Int.cast_ofNat_Int, hn, go_sem, simprocAttr]
      try rfl
    · rw [if_pos he0] at x2
      subst x2
      repeat' first
       | with_reducible refine Rl.go (by constructor <;> decide) ?_
       | ((with_reducible first | refine hK _ ?_ | refine hK.1 ?_ | refine hK.2 ?_); clear hK K)
       | ((with_reducible refine condS hK (fun hg => ?_) fun hg => ?_) <;> clear hK K <;> (try simp only [hgW] at hg) <;> try (exfalso; omega))
       | ((first | ((with_reducible first | refine Rk.go k55_VsCRef2 (by constructor) ?_ | refine Rd.go 12 k55_VsCRef2 a55_12_VsCRef2 o55_12_VsCRef2 mixed (by constructor) (by kernel_rfl) (by kernel_rfl) ?_); intro K hK) | with_reducible refine Rr.go [] (by constructor) ?_ | (with_reducible refine guardP_split (fun hg => ?_) fun hg => ?_) <;> (try simp only [hg]) <;> (try simp only [hgW] at hg)) <;> simp -implicitDefEqProofs only [RS.cells, av_mk', Int.cast_ofNat_Int, hn, go_sem, simprocAttr] <;> try simp (disch := omega) only [wrW])
       | with_reducible refine And.intro (by first | omega | (simp only [hgW]; omega)) ?_
       | (exfalso; omega)
end Go.Proofs.YtijcpdgfbboamaaDoor
open Go Go.VS
namespace Go.Proofs.YtijcpdgfbboamaaDoor
set_option linter.unusedVariables false
set_option linter.unusedSimpArgs false
set_option maxRecDepth 20000
set_option maxHeartbeats 4000000
def k55_VsCRef3 : List Nat := [0,1,2,3,8,9,10,11,12,14,25,45,48,65]
def a55_12_VsCRef3 : List Nat := [0,1,3,7,15,7,39,103,231,511,1023,7,4095,8191,16383]
def o55_12_VsCRef3 : List Nat := [0,1,2,3,4,5,6,7,8,9,10,11,12,13,14]
attribute [go_sem] k55_VsCRef3 a55_12_VsCRef3 o55_12_VsCRef3
theorem f55_b {it : RS → CI × RS} (K : KeepsR it) (deep : Nat) (hit : ItROk it deep) (n : Nat) (hn64 : n < 18446744073709551616) (s : RS) (he : s.err = 0) (hi : s.items ≤ 512) (hl : s.b.length ≤ 100000) :
    CallsB Tryd.prog 55 [.ptr 1000000 0, .bool true, .int .u64 (n : Int), .int .i64 (deep : Int)] [s.cells false] (grpR it true n s []).1.av [(grpR it true n s []).2.cells false] := by
  obtain ⟨R, hR⟩ : ∃ R, grpR it true n s [] = R := ⟨_, rfl⟩
  rw [hR]
  refine CallsB.introF Tryd.func55 rfl (by show 4 ≤ 78; decide) ?_
  rintro X hX
  have hn : X.n = 78 := hX
  unfold Tryd.f55
  dsimp only
  rw [entryB41]
  repeat' first
   | with_reducible refine Rl.go (by constructor <;> decide) ?_
   | ((with_reducible first | refine hK _ ?_ | refine hK.1 ?_ | refine hK.2 ?_); clear hK K)
   | ((with_reducible refine condS hK (fun hg => ?_) fun hg => ?_) <;> clear hK K <;> (try simp only [hgW] at hg) <;> try (exfalso; omega))
   | ((first | ((with_reducible first | refine Rk.go k55_VsCRef3 (by constructor) ?_ | refine Rd.go 12 k55_VsCRef3 a55_12_VsCRef3 o55_12_VsCRef3 mixed (by constructor) (by kernel_rfl) (by kernel_rfl) ?_); intro K hK) | with_reducible refine Rr.go [] (by constructor) ?_ | (with_reducible refine guardP_split (fun hg => ?_) fun hg => ?_) <;> (try simp only [hg]) <;> (try simp only [hgW] at hg)) <;> simp -implicitDefEqProofs only [RS.cells, Int.cast_ofNat_Int, hn, go_sem, simprocAttr] <;> try (simp (disch := omega) only [wrW]; try simp -implicitDefEqProofs only [RS.cells, Int.cast_ofNat_Int, hn, go_sem, simprocAttr]))
   | with_reducible refine And.intro (by first | omega | (simp only [hgW]; omega)) ?_
   | (exfalso; omega)
  refine AWP.adoptB 9 3 (0, 999) 0 4 (by rfl) (by rfl) ?_
  refine AWP.loopX [0, 1, 2, 3, 8, 9, 10] [11, 12] (fun x : Nat × RS × List CI => St.mk (lk [(0, .ptr 1000000 0), (1, .bool true), (2, .int .u64 (n : Int)), (3, .int .i64 (deep : Int)), (8, .ptr 8 0), (9, .ptr 9 0), (10, .int .u64 (x.1 : Int))])
      (lkB [(1000000, x.2.1.cells false), (8, [.int .u8 0, .int .u64 0, .sl none true 1 [], .sl none true 4 []]), (9, [.int .u8 6, .int .u64 0, .sl none true 1 [], .sl (some ((0, 999), 0)) x.2.2.isEmpty 4 (x.2.2.map CI.av)])]) (hasS []) (hasS []) (hasN []) (lkR []))
    (GrpI it true n R) (fun x => n - x.1) (0, s, []) ?_ ⟨Nat.zero_le _, hR, fun _ => ⟨hi, hl, Nat.zero_le _, fun h => rfl⟩⟩ ?_
  · simp -implicitDefEqProofs only [RS.cells, Int.cast_ofNat_Int, hn, go_sem, simprocAttr]
    try rfl
  rintro ⟨k, ⟨b, items, err⟩, ks⟩ hx
  obtain ⟨x1, x2, x3⟩ := hx
  simp only at x1 x2 x3
  by_cases hkn : k = n
  · subst hkn
    rw [Nat.sub_self] at x2
    simp only [grpR] at x2
    subst x2
    repeat' first
     | with_reducible refine Rl.go (by constructor <;> decide) ?_
     | ((with_reducible first | refine hK _ ?_ | refine hK.1 ?_ | refine hK.2 ?_); clear hK K)
     | ((with_reducible refine condS hK (fun hg => ?_) fun hg => ?_) <;> clear hK K <;> (try simp only [hgW] at hg) <;> try (exfalso; omega))
     | ((first | ((with_reducible first | refine Rk.go k55_VsCRef3 (by constructor) ?_ | refine Rd.go 12 k55_VsCRef3 a55_12_VsCRef3 o55_12_VsCRef3 mixed (by constructor) (by kernel_rfl) (by kernel_rfl) ?_); intro K hK) | with_reducible refine Rr.go [] (by constructor) ?_ | (with_reducible refine guardP_split (fun hg => ?_) fun hg => ?_) <;> (try simp only [hg]) <;> (try simp only [hgW] at hg)) <;> simp -implicitDefEqProofs only [RS.cells, av_mk', Int.cast_ofNat_Int, hn, go_sem, simprocAttr] <;> try (simp (disch := omega) only [wrW]; try simp -implicitDefEqProofs only [RS.cells, av_mk', Int.cast_ofNat_Int, hn, go_sem, simprocAttr]))
     | with_reducible refine And.intro (by first | omega | (simp only [hgW]; omega)) ?_
     | (exfalso; omega)
  have hx0 : n - k = (n - (k + 1)) + 1 := by omega
  rw [hx0] at x2
  simp only [grpR] at x2
  by_cases he0 : err = 0
  · subst he0
    obtain ⟨y1, y2, y3, y4⟩ := x3 rfl
    have y4 := y4 trivial
    rw [if_neg (by simp)] at x2
    have c43 := hit ⟨b, items, 0⟩ rfl y2 (by simp only; omega)
    have k1 := K.len ⟨b, items, 0⟩ rfl
    have k2 := K.more ⟨b, items, 0⟩ rfl
    obtain ⟨p, hp⟩ : ∃ p, it ⟨b, items, 0⟩ = p := ⟨_, rfl⟩
    rw [hp] at x2 c43 k1 k2
    obtain ⟨⟨ki, ni, bni, bi, kni, kids⟩, ⟨b', items', err'⟩⟩ := p
    simp only at x2 c43 k1 k2
    have c46 := f46_ok (CI.mk ki ni bni bi kni kids)
    obtain ⟨y, hy⟩ : ∃ y, ks.getD (ks.length - 2) default = y := ⟨_, rfl⟩
    obtain ⟨yk, yn, ybn, yb, ykn, yks⟩ := y
    have c36 := f36_ok (CI.mk yk yn ybn yb ykn yks) (CI.mk ki ni bni bi kni kids)
    rw [hy] at x2
    obtain ⟨o, ho⟩ : ∃ o, aheadS (CI.mk yk yn ybn yb ykn yks) (CI.mk ki ni bni bi kni kids) = o := ⟨_, rfl⟩
    rw [ho] at c36 x2
    simp only [av_mk'] at c46 c36
    have e1 : ks.map CI.av ++ [AV.agg [.int .u8 (ki : Int), .int .u64 (ni : Int), .sl none bni 1 (bi.map u8), .sl none kni 4 (kids.map CI.av)]] = (ks ++ [CI.mk ki ni bni bi kni kids]).map CI.av := by
      rw [List.map_append, List.map_cons, List.map_nil, av_mk']
    have e2 : (k : Int) + 1 = ((k + 1 : Nat) : Int) := by omega
    have e3 : (ks ++ [CI.mk ki ni bni bi kni kids]).isEmpty = false := by simp
    by_cases he' : err' = 0
    · subst he'
      obtain ⟨k3, k4⟩ := k2 rfl
      have k5 := k1 rfl
      rw [if_neg (by simp)] at x2
      by_cases hpl : plainS (CI.mk ki ni bni bi kni kids) = true
      · rw [hpl] at c46 x2
        rw [if_neg (by simp)] at x2
        have hgd : (ks ++ [CI.mk ki ni bni bi kni kids]).getD (ks.length - 2) default = if ks = [] then CI.mk ki ni bni bi kni kids else CI.mk yk yn ybn yb ykn yks := by
          by_cases hks : ks = []
          · subst hks; rfl
          · rw [if_neg hks, ← hy]
            have : ks.length - 2 < ks.length := by have := List.length_pos_iff.2 hks; omega
            rw [List.getD_eq_getElem?_getD, List.getD_eq_getElem?_getD, List.getElem?_append_left this]
        by_cases hod : ks ≠ [] ∧ o = false
        · rw [if_pos hod] at x2
          have hks : 0 < ks.length := List.length_pos_iff.2 hod.1
          rw [if_neg hod.1] at hgd
          have ho2 := hod.2
          subst ho2
          have c54 := f54_ok ⟨b', items', 0⟩ false 21
          have hidx : ((((ks.length + 1 : Nat) : Int)) - 3).toNat = ks.length - 2 := by omega
          repeat' first
           | with_reducible refine Rl.go (by constructor <;> decide) ?_
           | ((with_reducible first | refine hK _ ?_ | refine hK.1 ?_ | refine hK.2 ?_); clear hK K)
           | ((with_reducible refine condS hK (fun hg => ?_) fun hg => ?_) <;> clear hK K <;> (try simp only [hgW] at hg) <;> try (exfalso; omega))
           | ((with_reducible refine callE_B3 c43 ?_); simp -implicitDefEqProofs only [eqOk_true, RS.cells, RS.fail, e1, av_mk', hgd, hidx, List.length_append, Int.cast_ofNat_Int, hn, go_sem, simprocAttr]; (skip; try (simp (disch := omega) only [wrW]; try simp -implicitDefEqProofs only [RS.cells, RS.fail, e1, av_mk', hgd, hidx, List.length_append, Int.cast_ofNat_Int, hn, go_sem, simprocAttr])); fail_if_success (with_reducible refine eqOk_mk ?_))
           | ((with_reducible refine callE_B3 c54 ?_); simp -implicitDefEqProofs only [eqOk_true, RS.cells, RS.fail, e1, av_mk', hgd, hidx, List.length_append, Int.cast_ofNat_Int, hn, go_sem, simprocAttr]; (skip; try (simp (disch := omega) only [wrW]; try simp -implicitDefEqProofs only [RS.cells, RS.fail, e1, av_mk', hgd, hidx, List.length_append, Int.cast_ofNat_Int, hn, go_sem, simprocAttr])); fail_if_success (with_reducible refine eqOk_mk ?_))
           | ((first | ((with_reducible first | refine Rk.go k55_VsCRef3 (by constructor) ?_ | refine Rd.go 12 k55_VsCRef3 a55_12_VsCRef3 o55_12_VsCRef3 mixed (by constructor) (by kernel_rfl) (by kernel_rfl) ?_); intro K hK) | with_reducible refine Rr.go [] (by constructor) ?_ | (with_reducible refine guardP_split (fun hg => ?_) fun hg => ?_) <;> (try simp only [hg]) <;> (try simp only [hgW] at hg) | refine Rc.go c46 (by constructor) ?_ | refine Rc.go c36 (by constructor) ?_) <;> simp -implicitDefEqProofs only [RS.cells, RS.fail, e1, av_mk', hgd, hidx, List.length_append, Int.cast_ofNat_Int, hn, go_sem, simprocAttr] <;> try (simp (disch := omega) only [wrW]; try simp -implicitDefEqProofs only [RS.cells, RS.fail, e1, av_mk', hgd, hidx, List.length_append, Int.cast_ofNat_Int, hn, go_sem, simprocAttr]))
           | with_reducible refine And.intro (by first | omega | (simp only [hgW]; omega)) ?_
           | (exfalso; omega)
          refine ⟨(k + 1, ⟨b', items', 21⟩, ks ++ [CI.mk ki ni bni bi kni kids]), ?_, ⟨by simp only; omega, x2, fun h => by cases h⟩, by simp only; omega⟩
          rw [e2]
          simp -implicitDefEqProofs only [RS.cells, e3, Int.cast_ofNat_Int, hn, go_sem, simprocAttr]
          try rfl
        · rw [if_neg hod] at x2
          have c43' := hit ⟨b', items', 0⟩ rfl (by simp only; omega) (by simp only; omega)
          have g1 := K.len ⟨b', items', 0⟩ rfl
          have g2 := K.more ⟨b', items', 0⟩ rfl
          obtain ⟨q, hq⟩ : ∃ q, it ⟨b', items', 0⟩ = q := ⟨_, rfl⟩
          rw [hq] at g1 g2 x2 c43'
          obtain ⟨⟨vk, vn, vbn, vb, vkn, vks⟩, ⟨b3, i3, e4⟩⟩ := q
          simp only at g1 g2 x2 c43'
          have f1 : (ks ++ [CI.mk ki ni bni bi kni kids]).map CI.av ++ [AV.agg [.int .u8 (vk : Int), .int .u64 (vn : Int), .sl none vbn 1 (vb.map u8), .sl none vkn 4 (vks.map CI.av)]] = (ks ++ [CI.mk ki ni bni bi kni kids] ++ [CI.mk vk vn vbn vb vkn vks]).map CI.av := by
            rw [List.map_append (l₂ := [CI.mk vk vn vbn vb vkn vks]), List.map_cons, List.map_nil, av_mk']
          have f3 : (ks ++ [CI.mk ki ni bni bi kni kids] ++ [CI.mk vk vn vbn vb vkn vks]).isEmpty = false := by simp
          have more : GrpI it true n R (k + 1, ⟨b3, i3, e4⟩, ks ++ [CI.mk ki ni bni bi kni kids] ++ [CI.mk vk vn vbn vb vkn vks]) := by
            refine ⟨by simp only; omega, x2, fun h => ?_⟩
            have h1 := g1 h
            have h2 := g2 h
            simp only [List.length_append, List.length_cons, List.length_nil] at h1 h2 ⊢
            exact ⟨by omega, by omega, by omega, fun _ => by omega⟩
          have hidx : ((((ks.length + 1 : Nat) : Int)) - 3).toNat = ks.length - 2 := by omega
          by_cases hk0 : k = 0
          · subst hk0
            repeat' first
             | with_reducible refine Rl.go (by constructor <;> decide) ?_
             | ((with_reducible first | refine hK _ ?_ | refine hK.1 ?_ | refine hK.2 ?_); clear hK K)
             | ((with_reducible refine condS hK (fun hg => ?_) fun hg => ?_) <;> clear hK K <;> (try simp only [hgW] at hg) <;> try (exfalso; omega))
             | ((with_reducible refine callE_B3 c43 ?_); simp -implicitDefEqProofs only [eqOk_true, RS.cells, RS.fail, e1, f1, av_mk', hgd, hidx, List.length_append, Int.cast_ofNat_Int, hn, go_sem, simprocAttr]; (skip; try (simp (disch := omega) only [wrW]; try simp -implicitDefEqProofs only [RS.cells, RS.fail, e1, f1, av_mk', hgd, hidx, List.length_append, Int.cast_ofNat_Int, hn, go_sem, simprocAttr])); fail_if_success (with_reducible refine eqOk_mk ?_))
             | ((with_reducible refine callE_B3 (c43') ?_); simp -implicitDefEqProofs only [eqOk_true, RS.cells, RS.fail, e1, f1, av_mk', hgd, hidx, List.length_append, Int.cast_ofNat_Int, hn, go_sem, simprocAttr]; (skip; try (simp (disch := omega) only [wrW]; try simp -implicitDefEqProofs only [RS.cells, RS.fail, e1, f1, av_mk', hgd, hidx, List.length_append, Int.cast_ofNat_Int, hn, go_sem, simprocAttr])); fail_if_success (with_reducible refine eqOk_mk ?_))
             | ((first | ((with_reducible first | refine Rk.go k55_VsCRef3 (by constructor) ?_ | refine Rd.go 12 k55_VsCRef3 a55_12_VsCRef3 o55_12_VsCRef3 mixed (by constructor) (by kernel_rfl) (by kernel_rfl) ?_); intro K hK) | with_reducible refine Rr.go [] (by constructor) ?_ | (with_reducible refine guardP_split (fun hg => ?_) fun hg => ?_) <;> (try simp only [hg]) <;> (try simp only [hgW] at hg) | refine Rc.go c46 (by constructor) ?_ | refine Rc.go c36 (by constructor) ?_) <;> simp -implicitDefEqProofs only [RS.cells, RS.fail, e1, f1, av_mk', hgd, hidx, List.length_append, Int.cast_ofNat_Int, hn, go_sem, simprocAttr] <;> try (simp (disch := omega) only [wrW]; try simp -implicitDefEqProofs only [RS.cells, RS.fail, e1, f1, av_mk', hgd, hidx, List.length_append, Int.cast_ofNat_Int, hn, go_sem, simprocAttr]))
             | with_reducible refine And.intro (by first | omega | (simp only [hgW]; omega)) ?_
             | (exfalso; omega)
            refine ⟨_, ?_, more, by simp only; omega⟩
            simp -implicitDefEqProofs only [RS.cells, f3, Int.cast_ofNat_Int, hn, go_sem, simprocAttr]
            try rfl
          · have hks0 : ks ≠ [] := fun e => by rw [e] at y4; simp only [List.length_nil] at y4; omega
            have hks : 0 < ks.length := List.length_pos_iff.2 hks0
            have ho2 : o = true := by
              cases o with
              | true => rfl
              | false => exact absurd ⟨hks0, rfl⟩ hod
            subst ho2
            rw [if_neg hks0] at hgd
            repeat' first
             | with_reducible refine Rl.go (by constructor <;> decide) ?_
             | ((with_reducible first | refine hK _ ?_ | refine hK.1 ?_ | refine hK.2 ?_); clear hK K)
             | ((with_reducible refine condS hK (fun hg => ?_) fun hg => ?_) <;> clear hK K <;> (try simp only [hgW] at hg) <;> try (exfalso; omega))
             | ((with_reducible refine callE_B3 c43 ?_); simp -implicitDefEqProofs only [eqOk_true, RS.cells, RS.fail, e1, f1, av_mk', hgd, hidx, List.length_append, Int.cast_ofNat_Int, hn, go_sem, simprocAttr]; (skip; try (simp (disch := omega) only [wrW]; try simp -implicitDefEqProofs only [RS.cells, RS.fail, e1, f1, av_mk', hgd, hidx, List.length_append, Int.cast_ofNat_Int, hn, go_sem, simprocAttr])); fail_if_success (with_reducible refine eqOk_mk ?_))
             | ((with_reducible refine callE_B3 (c43') ?_); simp -implicitDefEqProofs only [eqOk_true, RS.cells, RS.fail, e1, f1, av_mk', hgd, hidx, List.length_append, Int.cast_ofNat_Int, hn, go_sem, simprocAttr]; (skip; try (simp (disch := omega) only [wrW]; try simp -implicitDefEqProofs only [RS.cells, RS.fail, e1, f1, av_mk', hgd, hidx, List.length_append, Int.cast_ofNat_Int, hn, go_sem, simprocAttr])); fail_if_success (with_reducible refine eqOk_mk ?_))
             | ((first | ((with_reducible first | refine Rk.go k55_VsCRef3 (by constructor) ?_ | refine Rd.go 12 k55_VsCRef3 a55_12_VsCRef3 o55_12_VsCRef3 mixed (by constructor) (by kernel_rfl) (by kernel_rfl) ?_); intro K hK) | with_reducible refine Rr.go [] (by constructor) ?_ | (with_reducible refine guardP_split (fun hg => ?_) fun hg => ?_) <;> (try simp only [hg]) <;> (try simp only [hgW] at hg) | refine Rc.go c46 (by constructor) ?_ | refine Rc.go c36 (by constructor) ?_) <;> simp -implicitDefEqProofs only [RS.cells, RS.fail, e1, f1, av_mk', hgd, hidx, List.length_append, Int.cast_ofNat_Int, hn, go_sem, simprocAttr] <;> try (simp (disch := omega) only [wrW]; try simp -implicitDefEqProofs only [RS.cells, RS.fail, e1, f1, av_mk', hgd, hidx, List.length_append, Int.cast_ofNat_Int, hn, go_sem, simprocAttr]))
             | with_reducible refine And.intro (by first | omega | (simp only [hgW]; omega)) ?_
             | (exfalso; omega)
            refine ⟨_, ?_, more, by simp only; omega⟩
            rw [e2]
            simp -implicitDefEqProofs only [RS.cells, f3, Int.cast_ofNat_Int, hn, go_sem, simprocAttr]
            try rfl
      · have hpl : plainS (CI.mk ki ni bni bi kni kids) = false := by simpa using hpl
        rw [hpl] at c46 x2
        rw [if_pos rfl] at x2
        have c54 := f54_ok ⟨b', items', 0⟩ false 20
        repeat' first
         | with_reducible refine Rl.go (by constructor <;> decide) ?_
         | ((with_reducible first | refine hK _ ?_ | refine hK.1 ?_ | refine hK.2 ?_); clear hK K)
         | ((with_reducible refine condS hK (fun hg => ?_) fun hg => ?_) <;> clear hK K <;> (try simp only [hgW] at hg) <;> try (exfalso; omega))
         | ((with_reducible refine callE_B3 c43 ?_); simp -implicitDefEqProofs only [eqOk_true, RS.cells, RS.fail, e1, av_mk', List.length_append, Int.cast_ofNat_Int, hn, go_sem, simprocAttr]; (skip; try (simp (disch := omega) only [wrW]; try simp -implicitDefEqProofs only [RS.cells, RS.fail, e1, av_mk', List.length_append, Int.cast_ofNat_Int, hn, go_sem, simprocAttr])); fail_if_success (with_reducible refine eqOk_mk ?_))
         | ((with_reducible refine callE_B3 c54 ?_); simp -implicitDefEqProofs only [eqOk_true, RS.cells, RS.fail, e1, av_mk', List.length_append, Int.cast_ofNat_Int, hn, go_sem, simprocAttr]; (skip; try (simp (disch := omega) only [wrW]; try simp -implicitDefEqProofs only [RS.cells, RS.fail, e1, av_mk', List.length_append, Int.cast_ofNat_Int, hn, go_sem, simprocAttr])); fail_if_success (with_reducible refine eqOk_mk ?_))
         | ((first | ((with_reducible first | refine Rk.go k55_VsCRef3 (by constructor) ?_ | refine Rd.go 12 k55_VsCRef3 a55_12_VsCRef3 o55_12_VsCRef3 mixed (by constructor) (by kernel_rfl) (by kernel_rfl) ?_); intro K hK) | with_reducible refine Rr.go [] (by constructor) ?_ | (with_reducible refine guardP_split (fun hg => ?_) fun hg => ?_) <;> (try simp only [hg]) <;> (try simp only [hgW] at hg) | refine Rc.go c46 (by constructor) ?_) <;> simp -implicitDefEqProofs only [RS.cells, RS.fail, e1, av_mk', List.length_append, Int.cast_ofNat_Int, hn, go_sem, simprocAttr] <;> try (simp (disch := omega) only [wrW]; try simp -implicitDefEqProofs only [RS.cells, RS.fail, e1, av_mk', List.length_append, Int.cast_ofNat_Int, hn, go_sem, simprocAttr]))
         | with_reducible refine And.intro (by first | omega | (simp only [hgW]; omega)) ?_
         | (exfalso; omega)
        refine ⟨(k + 1, ⟨b', items', 20⟩, ks ++ [CI.mk ki ni bni bi kni kids]), ?_, ⟨by simp only; omega, x2, fun h => by cases h⟩, by simp only; omega⟩
        rw [e2]
        simp -implicitDefEqProofs only [RS.cells, e3, Int.cast_ofNat_Int, hn, go_sem, simprocAttr]
        try rfl
    · rw [if_pos (Or.inr he')] at x2
      repeat' first
       | with_reducible refine Rl.go (by constructor <;> decide) ?_
       | ((with_reducible first | refine hK _ ?_ | refine hK.1 ?_ | refine hK.2 ?_); clear hK K)
       | ((with_reducible refine condS hK (fun hg => ?_) fun hg => ?_) <;> clear hK K <;> (try simp only [hgW] at hg) <;> try (exfalso; omega))
       | ((with_reducible refine callE_B3 c43 ?_); simp -implicitDefEqProofs only [eqOk_true, RS.cells, av_mk', Int.cast_ofNat_Int, hn, go_sem, simprocAttr]; (skip; try (simp (disch := omega) only [wrW]; try simp -implicitDefEqProofs only [RS.cells, av_mk', Int.cast_ofNat_Int, hn, go_sem, simprocAttr])); fail_if_success (with_reducible refine eqOk_mk ?_))
       | ((first | ((with_reducible first | refine Rk.go k55_VsCRef3 (by constructor) ?_ | refine Rd.go 12 k55_VsCRef3 a55_12_VsCRef3 o55_12_VsCRef3 mixed (by constructor) (by kernel_rfl) (by kernel_rfl) ?_); intro K hK) | with_reducible refine Rr.go [] (by constructor) ?_ | (with_reducible refine guardP_split (fun hg => ?_) fun hg => ?_) <;> (try simp only [hg]) <;> (try simp only [hgW] at hg)) <;> simp -implicitDefEqProofs only [RS.cells, av_mk', Int.cast_ofNat_Int, hn, go_sem, simprocAttr] <;> try (simp (disch := omega) only [wrW]; try simp -implicitDefEqProofs only [RS.cells, av_mk', Int.cast_ofNat_Int, hn, go_sem, simprocAttr]))
       | with_reducible refine And.intro (by first | omega | (simp only [hgW]; omega)) ?_
       | (exfalso; omega)
      refine ⟨(k + 1, ⟨b', items', err'⟩, ks ++ [CI.mk ki ni bni bi kni kids]), ?_, ⟨by simp only; omega, x2, fun h => absurd h he'⟩, by simp only; omega⟩
      rw [e1, e2]
      simp -implicitDefEqProofs only [RS.cells, e3, Int.cast_ofNat_Int, hn, go_sem, simprocAttr]
      try rfl
  · rw [if_pos he0] at x2
    subst x2
    repeat' first
     | with_reducible refine Rl.go (by constructor <;> decide) ?_
     | ((with_reducible first | refine hK _ ?_ | refine hK.1 ?_ | refine hK.2 ?_); clear hK K)
     | ((with_reducible refine condS hK (fun hg => ?_) fun hg => ?_) <;> clear hK K <;> (try simp only [hgW] at hg) <;> try (exfalso; omega))
     | ((first | ((with_reducible first | refine Rk.go k55_VsCRef3 (by constructor) ?_ | refine Rd.go 12 k55_VsCRef3 a55_12_VsCRef3 o55_12_VsCRef3 mixed (by constructor) (by kernel_rfl) (by kernel_rfl) ?_); intro K hK) | with_reducible refine Rr.go [] (by constructor) ?_ | (with_reducible refine guardP_split (fun hg => ?_) fun hg => ?_) <;> (try simp only [hg]) <;> (try simp only [hgW] at hg)) <;> simp -implicitDefEqProofs only [RS.cells, av_mk', Int.cast_ofNat_Int, hn, go_sem, simprocAttr] <;> try (simp (disch := omega) only [wrW]; try simp -implicitDefEqProofs only [RS.cells, av_mk', Int.cast_ofNat_Int, hn, go_sem, simprocAttr]))
     | with_reducible refine And.intro (by first | omega | (simp only [hgW]; omega)) ?_
     | (exfalso; omega)
end Go.Proofs.YtijcpdgfbboamaaDoor
