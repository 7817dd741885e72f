/- The law JsonsJoins: two values that are right, and not too long. -/
import Derived.Test.YtfemncfhiihckaaDoorVsQFar
import Derived.Test.YtfemncfhiihckaaDoorVsLAwake
import Derived.Test.YtfemncfhiihckaaDoorVsLSmall
open Go Go.VS
namespace Go.Proofs.YtfemncfhiihckaaDoor
set_option linter.unusedVariables false
set_option linter.unusedSimpArgs false
set_option maxRecDepth 20000
set_option maxHeartbeats 4000000
/-- The first so many nodes further on. -/
def farL (l : List JN) (by_ i : Nat) : List JN := (l.take i).map (shiftJ by_) ++ l.drop i
theorem farL_zero (l : List JN) (b : Nat) : farL l b 0 = l := rfl
theorem farL_all (l : List JN) (b : Nat) : farL l b l.length = l.map (shiftJ b) := by simp [farL]
theorem farL_len (l : List JN) (b i : Nat) : (farL l b i).length = l.length := by
  unfold farL
  rw [List.length_append, List.length_map, List.length_take, List.length_drop]; omega
theorem farL_get (l : List JN) (b i : Nat) (h : i < l.length) : (farL l b i).getD i default = l.getD i default := by
  unfold farL
  rw [List.getD_eq_getElem?_getD, List.getD_eq_getElem?_getD, List.getElem?_append_right (by rw [List.length_map, List.length_take]; omega), List.length_map, List.length_take, List.getElem?_drop, show min i l.length = i by omega, Nat.sub_self, Nat.add_zero]
theorem farL_set (l : List JN) (b i : Nat) (h : i < l.length) : farL l b (i + 1) = (farL l b i).set i (shiftJ b (l.getD i default)) := by
  unfold farL
  rw [List.set_append_right _ _ (by rw [List.length_map, List.length_take]; omega), List.length_map, List.length_take, show i - min i l.length = 0 by omega, List.drop_eq_getElem_cons h, List.set_cons_zero, List.take_succ_eq_append_getElem h,
    List.map_append, List.append_assoc, List.getD_eq_getElem?_getD, List.getElem?_eq_getElem h]
  rfl
def k7_VsQJoin2 : List Nat := [0,1,2,3,4,5,6,7,8,9,10,11,12,13,14,16,56,131,133,134,135,149,150,151]
def a7_3_VsQJoin2 : List Nat := [0,1,0,7,15,31]
def o7_3_VsQJoin2 : List Nat := [0,1,2,3,4,5]
attribute [go_sem] k7_VsQJoin2 a7_3_VsQJoin2 o7_3_VsQJoin2
theorem f7_good (x y : AV) (hx : ∃ a b c, x = .agg [.int .u8 a, .str b, c] ∧ (∃ n l, c = .sl none n 3 l)) (hy : ∃ a b c, y = .agg [.int .u8 a, .str b, c] ∧ (∃ n l, c = .sl none n 3 l)) (A B : List UInt8) (la lb : List JN)
    (c15a : CallsP Tryd.prog 15 [x, .int .i64 4, .str []] (.str A)) (c15b : CallsP Tryd.prog 15 [y, .int .i64 4, .str [32]] (.str B))
    (ca : CallsP Tryd.prog 17 [.sl none false 1 (A.map u8)] (.tup [.sl (some ((3, 0), 0)) la.isEmpty 4 (la.map JN.av), .int .i64 0])) (cb : CallsP Tryd.prog 17 [.sl none false 1 (B.map u8)] (.tup [.sl (some ((3, 0), 0)) lb.isEmpty 4 (lb.map JN.av), .int .i64 0]))
    (hbig1 : A.length + B.length + 3 ≤ 4096) (hbig2 : 1 + la.length + lb.length ≤ 256) (hna : 1 ≤ la.length) (hnb : 1 ≤ lb.length) (hsa : ∀ x ∈ la, smallJ x ∧ ∀ k ∈ x.ks, k < la.length) (hsb : ∀ x ∈ lb, smallJ x ∧ ∀ k ∈ x.ks, k < lb.length)
    (cP : CallsP Tryd.prog 17 [.sl none false 1 (u8 91 :: (A ++ [44] ++ B ++ [93]).map u8)] (.tup [.sl (some ((3, 0), 0)) false 4 ((⟨2, [], [], [1, 1 + la.length]⟩ :: (la.map (shiftJ 1) ++ lb.map (shiftJ (1 + la.length)))).map JN.av), .int .i64 0]))
    (h18 : ∀ (l : List JN) (n1 n2 : Bool), l.length ≤ 100000 → (∀ x ∈ l, smallJ x) → CallsP Tryd.prog 18 [.sl none n1 4 (l.map JN.av), .sl none n2 4 (l.map JN.av)] (.bool true)) : CallsP Tryd.prog 7 [x, y] (.bool true) := by
  obtain ⟨x1, x2, _, rfl, xn, xl, rfl⟩ := hx
  obtain ⟨y1, y2, _, rfl, yn, yl, rfl⟩ := hy
  obtain ⟨M1, hM1⟩ : ∃ m, la.map (shiftJ 1) = m := ⟨_, rfl⟩
  obtain ⟨M2, hM2⟩ : ∃ m, lb.map (shiftJ (1 + la.length)) = m := ⟨_, rfl⟩
  have hM1l : M1.length = la.length := by rw [← hM1, List.length_map]
  have hM2l : M2.length = lb.length := by rw [← hM2, List.length_map]
  rw [hM1, hM2] at cP
  have e1a : (1 : Int) + (la.length : Int) = ((1 + la.length : Nat) : Int) := by omega
  refine CallsP.intro Tryd.func7 rfl (by show 2 ≤ 183; decide) ?_
  rintro X hX
  have hn : X.n = 183 := hX
  unfold Tryd.f7
  dsimp only
  rw [entry2]
  have hea : la.isEmpty = false := by cases la with | nil => simp at hna | cons => rfl
  have heb : lb.isEmpty = false := by cases lb with | nil => simp at hnb | cons => rfl
  rw [hea] at ca
  rw [heb] at cb
  repeat' first
   | with_reducible refine Rl.go (by constructor <;> decide) ?_
   | ((with_reducible first | refine hK _ ?_ | refine hK.1 ?_ | refine hK.2 ?_); clear hK K)
   | ((with_reducible refine condS hK (fun hg => ?_) fun hg => ?_) <;> clear hK K <;> (try simp only [hgW] at hg) <;> try (exfalso; omega))
   | ((first | ((with_reducible first | refine Rk.go k7_VsQJoin2 (by constructor) ?_ | refine Rd.go 3 k7_VsQJoin2 a7_3_VsQJoin2 o7_3_VsQJoin2 mixed (by constructor) (by kernel_rfl) (by kernel_rfl) ?_); intro K hK) | with_reducible refine Rr.go [] (by constructor) ?_ | (with_reducible refine guardP_split (fun hg => ?_) fun hg => ?_) <;> (try simp only [hg]) <;> (try simp only [hgW] at hg) | refine Rc.go f14_ok (by constructor) ?_ | refine Rc.go c15a (by constructor) ?_ | refine Rc.go c15b (by constructor) ?_ | refine Rc.go ca (by constructor) ?_ | refine Rc.go cb (by constructor) ?_ | refine Rc.go cP (by constructor) ?_) <;> simp -implicitDefEqProofs only [JN.av, i64n, e1a, hn, go_sem, simprocAttr] <;> try (simp (disch := omega) only [wrW]; try simp -implicitDefEqProofs only [JN.av, i64n, e1a, hn, go_sem, simprocAttr]))
   | with_reducible refine And.intro (by first | omega | (simp only [hgW]; omega)) ?_
   | (exfalso; omega)
  refine AWP.loopX [4, 7, 9, 11, 133, 134] [2, 3] (fun i : Nat => St.mk (lk [(4, .bool false), (7, .sl (some ((0, 1000024), 0)) false 4 ((farL la 1 i).map JN.av)), (9, .sl (some ((0, 1000030), 0)) false 4 (lb.map JN.av)), (11, .sl (some ((0, 1000087), 0)) false 4 ((⟨2, [], [], [1, 1 + la.length]⟩ :: (M1 ++ M2)).map JN.av)), (133, .int .i64 (la.length : Int)), (134, .int .i64 (i : Int))]) (lkB []) (hasS []) (hasS []) (hasN []) (lkR []))
    (fun i => i ≤ la.length) (fun i => la.length - i) 0 ?_ (Nat.zero_le _) ?_
  · simp -implicitDefEqProofs only [JN.av, i64n, List.map_cons, farL_zero, hn, go_sem, simprocAttr]
    try rfl
  intro i hi
  try dsimp only
  have ei : (i : Int) + 1 = ((i + 1 : Nat) : Int) := by omega
  by_cases hil : i = la.length
  · subst hil
    rw [farL_all, hM1]
    repeat' first
     | with_reducible refine Rl.go (by constructor <;> decide) ?_
     | ((with_reducible first | refine hK _ ?_ | refine hK.1 ?_ | refine hK.2 ?_); clear hK K)
     | ((with_reducible refine condS hK (fun hg => ?_) fun hg => ?_) <;> clear hK K <;> (try simp only [hgW] at hg) <;> try (exfalso; omega))
     | ((first | ((with_reducible first | refine Rk.go k7_VsQJoin2 (by constructor) ?_ | refine Rd.go 3 k7_VsQJoin2 a7_3_VsQJoin2 o7_3_VsQJoin2 mixed (by constructor) (by kernel_rfl) (by kernel_rfl) ?_); intro K hK) | with_reducible refine Rr.go [] (by constructor) ?_ | (with_reducible refine guardP_split (fun hg => ?_) fun hg => ?_) <;> (try simp only [hg]) <;> (try simp only [hgW] at hg)) <;> simp -implicitDefEqProofs only [hn, go_sem, simprocAttr] <;> try (simp (disch := omega) only [wrW]; try simp -implicitDefEqProofs only [hn, go_sem, simprocAttr]))
     | with_reducible refine And.intro (by first | omega | (simp only [hgW]; omega)) ?_
     | (exfalso; omega)
    have e1b : (1 : Int) + (M1.length : Int) = ((1 + la.length : Nat) : Int) := by omega
    refine AWP.loopX [4, 7, 9, 11, 149, 150] [] (fun i : Nat => St.mk (lk [(4, .bool false), (7, .sl (some ((0, 1000024), 0)) false 4 (M1.map JN.av)), (9, .sl (some ((0, 1000030), 0)) false 4 ((farL lb (1 + la.length) i).map JN.av)), (11, .sl (some ((0, 1000087), 0)) false 4 ((⟨2, [], [], [1, 1 + la.length]⟩ :: (M1 ++ M2)).map JN.av)), (149, .int .i64 (lb.length : Int)), (150, .int .i64 (i : Int))]) (lkB []) (hasS []) (hasS []) (hasN []) (lkR []))
      (fun i => i ≤ lb.length) (fun i => lb.length - i) 0 ?_ (Nat.zero_le _) ?_
    · simp -implicitDefEqProofs only [JN.av, i64n, List.map_cons, farL_zero, hn, go_sem, simprocAttr]
      try rfl
    intro i hi
    try dsimp only
    have ei : (i : Int) + 1 = ((i + 1 : Nat) : Int) := by omega
    by_cases hil : i = lb.length
    · subst hil
      rw [farL_all, hM2]
      have c18a := h18 M1 false false (by omega) (by
        rw [← hM1]
        intro x hx
        obtain ⟨y, hy, rfl⟩ := List.mem_map.1 hx
        have := (hsa y hy).1
        exact ⟨this.1, by unfold shiftJ; simp only [List.length_map]; exact this.2⟩)
      have c18b := h18 M2 false false (by omega) (by
        rw [← hM2]
        intro x hx
        obtain ⟨y, hy, rfl⟩ := List.mem_map.1 hx
        have := (hsb y hy).1
        exact ⟨this.1, by unfold shiftJ; simp only [List.length_map]; exact this.2⟩)
      have t1 : List.take la.length (M1 ++ M2) = M1 := List.take_left' hM1l
      have t2 : List.drop la.length (M1 ++ M2) = M2 := List.drop_left' hM1l
      have e1c : (1 : Int) + (M1.length : Int) = ((la.length + 1 : Nat) : Int) := by omega
      have t3 : List.take ((M1 ++ M2).length - la.length) M2 = M2 := List.take_of_length_le (by rw [List.length_append]; omega)
      repeat' first
       | with_reducible refine Rl.go (by constructor <;> decide) ?_
       | ((with_reducible first | refine hK _ ?_ | refine hK.1 ?_ | refine hK.2 ?_); clear hK K)
       | ((with_reducible refine condS hK (fun hg => ?_) fun hg => ?_) <;> clear hK K <;> (try simp only [hgW] at hg) <;> try (exfalso; omega))
       | ((first | ((with_reducible first | refine Rk.go k7_VsQJoin2 (by constructor) ?_ | refine Rd.go 3 k7_VsQJoin2 a7_3_VsQJoin2 o7_3_VsQJoin2 mixed (by constructor) (by kernel_rfl) (by kernel_rfl) ?_); intro K hK) | with_reducible refine Rr.go [] (by constructor) ?_ | (with_reducible refine guardP_split (fun hg => ?_) fun hg => ?_) <;> (try simp only [hg]) <;> (try simp only [hgW] at hg) | refine Rc.go c18a (by constructor) ?_ | refine Rc.go c18b (by constructor) ?_) <;> simp -implicitDefEqProofs only [e1c, Nat.add_sub_cancel, List.drop_succ_cons, t1, t2, t3, hn, go_sem, simprocAttr] <;> try (simp (disch := omega) only [wrW]; try simp -implicitDefEqProofs only [e1c, Nat.add_sub_cancel, List.drop_succ_cons, t1, t2, t3, hn, go_sem, simprocAttr]))
       | with_reducible refine And.intro (by first | omega | (simp only [hgW]; omega)) ?_
       | (exfalso; omega)
    · obtain ⟨x, hx⟩ : ∃ x, lb.getD i default = x := ⟨_, rfl⟩
      have hxm : x ∈ lb := by
        rw [← hx, List.getD_eq_getElem?_getD, List.getElem?_eq_getElem (show i < lb.length by omega)]
        exact List.getElem_mem _
      obtain ⟨hs1, hs2⟩ := hsb x hxm
      have hgt := farL_get lb (1 + la.length) i (by omega)
      rw [hx] at hgt
      have hset := farL_set lb (1 + la.length) i (by omega)
      rw [hx] at hset
      have hll := farL_len lb (1 + la.length) i
      obtain ⟨Li, hLi⟩ : ∃ l, farL lb (1 + la.length) i = l := ⟨_, rfl⟩
      rw [hLi] at hgt hset hll ⊢
      obtain ⟨xk, xt, xn, xs⟩ := x
      have c19 := f19_ok xs xs.isEmpty (1 + la.length) (by have := hs1.2; simp only at this; omega) (fun k hk => by have := hs2 k hk; omega) (by omega)
      repeat' first
       | with_reducible refine Rl.go (by constructor <;> decide) ?_
       | ((with_reducible first | refine hK _ ?_ | refine hK.1 ?_ | refine hK.2 ?_); clear hK K)
       | ((with_reducible refine condS hK (fun hg => ?_) fun hg => ?_) <;> clear hK K <;> (try simp only [hgW] at hg) <;> try (exfalso; omega))
       | ((first | ((with_reducible first | refine Rk.go k7_VsQJoin2 (by constructor) ?_ | refine Rd.go 3 k7_VsQJoin2 a7_3_VsQJoin2 o7_3_VsQJoin2 mixed (by constructor) (by kernel_rfl) (by kernel_rfl) ?_); intro K hK) | with_reducible refine Rr.go [] (by constructor) ?_ | (with_reducible refine guardP_split (fun hg => ?_) fun hg => ?_) <;> (try simp only [hg]) <;> (try simp only [hgW] at hg) | refine Rc.go c19 (by constructor) ?_) <;> simp -implicitDefEqProofs only [JN.av, hgt, e1b, hn, go_sem, simprocAttr] <;> try (simp (disch := omega) only [wrW]; try simp -implicitDefEqProofs only [JN.av, hgt, e1b, hn, go_sem, simprocAttr]))
       | with_reducible refine And.intro (by first | omega | (simp only [hgW]; omega)) ?_
       | (exfalso; omega)
      refine ⟨i + 1, ?_, by omega, by omega⟩
      rw [hset, List.map_set]
      simp -implicitDefEqProofs only [ei, JN.av, shiftJ, hn, go_sem, simprocAttr]
      try rfl
  · obtain ⟨x, hx⟩ : ∃ x, la.getD i default = x := ⟨_, rfl⟩
    have hxm : x ∈ la := by
      rw [← hx, List.getD_eq_getElem?_getD, List.getElem?_eq_getElem (show i < la.length by omega)]
      exact List.getElem_mem _
    obtain ⟨hs1, hs2⟩ := hsa x hxm
    have hgt := farL_get la 1 i (by omega)
    rw [hx] at hgt
    have hset := farL_set la 1 i (by omega)
    rw [hx] at hset
    have hll := farL_len la 1 i
    obtain ⟨Li, hLi⟩ : ∃ l, farL la 1 i = l := ⟨_, rfl⟩
    rw [hLi] at hgt hset hll ⊢
    obtain ⟨xk, xt, xn, xs⟩ := x
    have c19 : CallsP Tryd.prog 19 [.sl none xs.isEmpty 1 (xs.map i64n), .int .i64 1] (.sl none (xs.map (· + 1)).isEmpty 1 ((xs.map (· + 1)).map i64n)) := f19_ok xs xs.isEmpty 1 (by have := hs1.2; simp only at this; omega) (fun k hk => by have := hs2 k hk; omega) (by decide)
    repeat' first
     | with_reducible refine Rl.go (by constructor <;> decide) ?_
     | ((with_reducible first | refine hK _ ?_ | refine hK.1 ?_ | refine hK.2 ?_); clear hK K)
     | ((with_reducible refine condS hK (fun hg => ?_) fun hg => ?_) <;> clear hK K <;> (try simp only [hgW] at hg) <;> try (exfalso; omega))
     | ((first | ((with_reducible first | refine Rk.go k7_VsQJoin2 (by constructor) ?_ | refine Rd.go 3 k7_VsQJoin2 a7_3_VsQJoin2 o7_3_VsQJoin2 mixed (by constructor) (by kernel_rfl) (by kernel_rfl) ?_); intro K hK) | with_reducible refine Rr.go [] (by constructor) ?_ | (with_reducible refine guardP_split (fun hg => ?_) fun hg => ?_) <;> (try simp only [hg]) <;> (try simp only [hgW] at hg) | refine Rc.go c19 (by constructor) ?_) <;> simp -implicitDefEqProofs only [JN.av, hgt, hn, go_sem, simprocAttr] <;> try (simp (disch := omega) only [wrW]; try simp -implicitDefEqProofs only [JN.av, hgt, hn, go_sem, simprocAttr]))
     | with_reducible refine And.intro (by first | omega | (simp only [hgW]; omega)) ?_
     | (exfalso; omega)
    refine ⟨i + 1, ?_, by omega, by omega⟩
    rw [hset, List.map_set]
    simp -implicitDefEqProofs only [ei, JN.av, shiftJ, hn, go_sem, simprocAttr]
    try rfl
end Go.Proofs.YtfemncfhiihckaaDoor
