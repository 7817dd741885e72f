/- The law JsonsGets answers true. -/
import Derived.Test.YtfemncfhiihckaaDoorVsNWalk
import Derived.Test.YtfemncfhiihckaaDoorVsLAwake
open Go Go.VS
namespace Go.Proofs.YtfemncfhiihckaaDoor
set_option linter.unusedVariables false
set_option linter.unusedSimpArgs false
set_option maxRecDepth 20000
set_option maxHeartbeats 4000000
theorem cnt_neg (n : Nat) : cntS n (-1) = (n : Int) := if_neg (by omega)
theorem cnt_some (n s : Nat) : cntS n (s : Int) = min (n : Int) (if (s : Int) = 0 then (n : Int) else (s : Int)) := by
  unfold cntS
  split <;> split <;> omega
def bigG (g : GN) : Prop := 100 < g.ns.length ∨ 100 < g.ks.length
theorem any_get (xs : List (List UInt8)) (zs : List (List UInt8 × Int)) (t : List UInt8) (h : xs = zs.map Prod.fst) : xs.any (fun x => x == t) = (getS zs t).2 := by
  subst h
  induction zs with
  | nil => rfl
  | cons z zs ih =>
    unfold getS at ih ⊢
    rw [List.find?_cons, List.map_cons, List.any_cons, ih]
    by_cases hz : z.1 = t
    · rw [decide_eq_true hz, hz]; simp
    · rw [decide_eq_false hz]; simp [hz]
theorem getS_fst (zs : List (List UInt8 × Int)) (t : List UInt8) (h : (getS zs t).2 = false) : (getS zs t).1 = 0 := by
  unfold getS at h ⊢
  split
  · rename_i hf; rw [hf] at h; cases h
  · rfl
def k8_VsNGets : List Nat := [0,1,2,3,8,10,11,12,13,14,15,17,18,19,20,21,23,26,27,28,29,30,42,62,82,83,84,85,113]
def a8_16_VsNGets : List Nat := [0,0,3,7,15,0,0,96,224,480,992,0,0,6144,14336,30720,63488,131040,262143,524287]
def o8_16_VsNGets : List Nat := [0,1,2,3,4,5,6,7,8,9,10,11,12,13,14,15,16,17,18,19]
attribute [go_sem] k8_VsNGets a8_16_VsNGets o8_16_VsNGets
theorem f8_ok (nb : Bool) (gs : List GN) (i : Int) (t : List UInt8) (s : UInt8) (hg : gs.length ≤ 9223372036854775807) (hm0 : ∀ g ∈ gs, g.ns.length ≤ 9223372036854775807 ∧ g.ks.length ≤ 9223372036854775807) :
    CallsP Tryd.prog 8 [.sl none nb 4 (gs.map GN.av), .int .i64 i, .str t, .int .u8 (s.toNat : Int)] (.bool true) := by
  by_cases h100 : 100 < gs.length
  · refine CallsP.intro Tryd.func8 rfl (by show 4 ≤ 150; decide) ?_
    rintro X hX
    have hn : X.n = 150 := hX
    unfold Tryd.f8
    dsimp only
    rw [entry4]
    repeat' first
     | with_reducible refine Rl.go (by constructor <;> decide) ?_
     | ((with_reducible first | refine hK _ ?_ | refine hK.1 ?_ | refine hK.2 ?_); clear hK K)
     | ((with_reducible refine condS hK (fun hg => ?_) fun hg => ?_) <;> clear hK K <;> (try simp only [hgW] at hg) <;> try (exfalso; omega))
     | ((first | ((with_reducible first | refine Rk.go k8_VsNGets (by constructor) ?_ | refine Rd.go 16 k8_VsNGets a8_16_VsNGets o8_16_VsNGets mixed (by constructor) (by kernel_rfl) (by kernel_rfl) ?_); intro K hK) | with_reducible refine Rr.go [] (by constructor) ?_ | (with_reducible refine guardP_split (fun hg => ?_) fun hg => ?_) <;> (try simp only [hg]) <;> (try simp only [hgW] at hg) | refine Rc.go f14_ok (by constructor) ?_) <;> simp -implicitDefEqProofs only [hn, go_sem, simprocAttr] <;> try (simp (disch := omega) only [wrW]; try simp -implicitDefEqProofs only [hn, go_sem, simprocAttr]))
     | with_reducible refine And.intro (by first | omega | (simp only [hgW]; omega)) ?_
     | (exfalso; omega)
  refine CallsP.intro Tryd.func8 rfl (by show 4 ≤ 150; decide) ?_
  rintro X hX
  have hn : X.n = 150 := hX
  unfold Tryd.f8
  dsimp only
  rw [entry4]
  repeat' first
   | with_reducible refine Rl.go (by constructor <;> decide) ?_
   | ((with_reducible first | refine hK _ ?_ | refine hK.1 ?_ | refine hK.2 ?_); clear hK K)
   | ((with_reducible refine condS hK (fun hg => ?_) fun hg => ?_) <;> clear hK K <;> (try simp only [hgW] at hg) <;> try (exfalso; omega))
   | ((first | ((with_reducible first | refine Rk.go k8_VsNGets (by constructor) ?_ | refine Rd.go 16 k8_VsNGets a8_16_VsNGets o8_16_VsNGets mixed (by constructor) (by kernel_rfl) (by kernel_rfl) ?_); intro K hK) | with_reducible refine Rr.go [] (by constructor) ?_ | (with_reducible refine guardP_split (fun hg => ?_) fun hg => ?_) <;> (try simp only [hg]) <;> (try simp only [hgW] at hg) | refine Rc.go f14_ok (by constructor) ?_) <;> simp -implicitDefEqProofs only [hn, go_sem, simprocAttr] <;> try (simp (disch := omega) only [wrW]; try simp -implicitDefEqProofs only [hn, go_sem, simprocAttr]))
   | with_reducible refine And.intro (by first | omega | (simp only [hgW]; omega)) ?_
   | (exfalso; omega)
  refine AWP.loopX [0, 1, 2, 3, 8, 27, 28, 29] [10] (fun j : Nat => St.mk (lk [(0, .sl none nb 4 (gs.map GN.av)), (1, .int .i64 i), (2, .str t), (3, .int .u8 (s.toNat : Int)), (8, .bool false), (27, .sl none nb 4 (gs.map GN.av)), (28, .int .i64 (gs.length : Int)), (29, .int .i64 (j : Int))]) (lkB []) (hasS []) (hasS []) (hasN []) (lkR []))
    (fun j => j ≤ gs.length ∧ ∀ k < j, ¬ bigG (gs.getD k default)) (fun j => gs.length - j) 0 ?_ ⟨Nat.zero_le _, fun k hk => absurd hk (Nat.not_lt_zero _)⟩ ?_
  · simp -implicitDefEqProofs only [hn, go_sem, simprocAttr]
    try rfl
  rintro j ⟨hj, hsm⟩
  try dsimp only
  have ej : (j : Int) + 1 = ((j + 1 : Nat) : Int) := by omega
  by_cases hjn : j = gs.length
  · subst hjn
    have hm : ∀ g ∈ gs, g.ns.length ≤ 100 ∧ g.ks.length ≤ 100 := fun g hgm => by
      obtain ⟨k, hk, rfl⟩ := List.getElem_of_mem hgm
      have := hsm k hk
      rw [List.getD_eq_getElem?_getD, List.getElem?_eq_getElem hk, Option.getD_some] at this
      unfold bigG at this
      omega
    have hm' : ∀ g ∈ gs, g.ns.length ≤ 100000 ∧ g.ks.length ≤ 100000 := fun g h => by have := hm g h; omega
    have c20 := f20_ok nb gs i t (by omega) hm'
    have c21 := f21_ok nb gs i t (by omega) hm'
    have c23 := fun n : Nat => f23_ok (s.toNat : Int) (n : Int)
    have hst := s.toNat_lt
    by_cases h0 : 0 ≤ i ∧ i < (gs.length : Int)
    · obtain ⟨k, rfl⟩ : ∃ k : Nat, i = (k : Int) := ⟨i.toNat, by omega⟩
      have hk : k < gs.length := by omega
      obtain ⟨g, hgg⟩ : ∃ g, gs.getD k default = g := ⟨_, rfl⟩
      have hm2 := hm g (by rw [← hgg, List.getD_eq_getElem?_getD, List.getElem?_eq_getElem hk]; exact List.getElem_mem _)
      have hz : memG gs (k : Int) = g.ns.zip g.ks := by
        unfold memG
        rw [if_pos h0, Int.toNat_natCast, hgg]
        rfl
      obtain ⟨gk, gt, n1, ns, n2, ks⟩ := g
      simp only at hz hm2
      obtain ⟨m, hmm, hmi⟩ : ∃ m : Nat, m = min ns.length ks.length ∧ (if (ks.length : Int) < (ns.length : Int) then (ks.length : Int) else (ns.length : Int)) = (m : Int) := ⟨min ns.length ks.length, rfl, by split <;> omega⟩
      obtain ⟨xs, hxs⟩ : ∃ xs, ns.take m = xs := ⟨_, rfl⟩
      have hxm : xs = (memG gs (k : Int)).map Prod.fst := by
        rw [hz, ← hxs, hmm]
        apply List.ext_getElem?
        intro m
        rw [List.getElem?_map]
        by_cases hm : m < min ns.length ks.length
        · rw [List.getElem?_take_of_lt hm, List.getElem?_eq_getElem (show m < (ns.zip ks).length by rw [List.length_zip]; exact hm), List.getElem_zip, List.getElem?_eq_getElem (show m < ns.length by omega)]
          rfl
        · rw [List.getElem?_eq_none (by rw [List.length_take]; omega), List.getElem?_eq_none (by rw [List.length_zip]; omega)]
          rfl
      have hxl : xs.length = (memG gs (k : Int)).length := by rw [hxm, List.length_map]
      have hxl2 : xs.length ≤ 100 := by rw [← hxs, List.length_take, hmm]; omega
      have hany := any_get xs _ t hxm
      have c22a := fun nn => f22_ok nb nn gs (k : Int) xs (s.toNat : Int) (by omega) hm' hxm
      have c22b := fun nn => f22_ok nb nn gs (k : Int) xs (-1) (by omega) hm' hxm
      rw [cnt_neg] at c22b
      rw [cnt_some] at c22a
      have c23a := c23 (memG gs (k : Int)).length
      have hfst := getS_fst (memG gs (k : Int)) t
      unfold getR at c21
      rw [← hxl] at c22a c22b c23a
      generalize getS (memG gs (k : Int)) t = G at *
      obtain ⟨gi, gb⟩ := G
      simp only at c20 c21 hany hfst
      obtain ⟨gr, hgr⟩ : ∃ gr, (if gb = true then gi else -1) = gr := ⟨_, rfl⟩
      rw [hgr] at c21
      obtain ⟨v, hv⟩ : ∃ v : Int, (if (s.toNat : Int) = 0 then (xs.length : Int) else (s.toNat : Int)) = v := ⟨_, rfl⟩
      rw [hv] at c22a c23a
      obtain ⟨w, hw⟩ : ∃ w : Int, min (xs.length : Int) v = w := ⟨_, rfl⟩
      rw [hw] at c22a
      have hwv : (if v < (xs.length : Int) then v else (xs.length : Int)) = w := by rw [← hw]; split <;> omega
      have hmx : m ≤ ns.length := by omega
      repeat' first
       | with_reducible refine Rl.go (by constructor <;> decide) ?_
       | ((with_reducible first | refine hK _ ?_ | refine hK.1 ?_ | refine hK.2 ?_); clear hK K)
       | ((with_reducible refine condS hK (fun hg => ?_) fun hg => ?_) <;> clear hK K <;> (try simp only [hgW] at hg) <;> try (exfalso; omega))
       | ((first | ((with_reducible first | refine Rk.go k8_VsNGets (by constructor) ?_ | refine Rd.go 16 k8_VsNGets a8_16_VsNGets o8_16_VsNGets mixed (by constructor) (by kernel_rfl) (by kernel_rfl) ?_); intro K hK) | with_reducible refine Rr.go [] (by constructor) ?_ | (with_reducible refine guardP_split (fun hg => ?_) fun hg => ?_) <;> (try simp only [hg]) <;> (try simp only [hgW] at hg) | refine Rc.go c20 (by constructor) ?_ | refine Rc.go c21 (by constructor) ?_) <;> simp -implicitDefEqProofs only [hgg, GN.av, hmi, hxs, hn, go_sem, simprocAttr] <;> try (simp (disch := omega) only [wrW]; try simp -implicitDefEqProofs only [hgg, GN.av, hmi, hxs, hn, go_sem, simprocAttr]))
       | with_reducible refine And.intro (by first | omega | (simp only [hgW]; omega)) ?_
       | (exfalso; omega)
      refine AWP.loopX [0, 1, 2, 3, 8, 11, 12, 13, 14, 15, 82, 83, 84] [] (fun j : Nat => St.mk (lk [(0, .sl none nb 4 (gs.map GN.av)), (1, .int .i64 (k : Int)), (2, .str t), (3, .int .u8 (s.toNat : Int)), (8, .bool false), (11, .int .i64 gi), (12, .bool gb), (13, .int .i64 gr), (14, .bool ((xs.take j).any fun x => x == t)), (15, .sl none n1 1 (xs.map .str)), (82, .sl none n1 1 (xs.map .str)), (83, .int .i64 (xs.length : Int)), (84, .int .i64 (j : Int))]) (lkB []) (hasS []) (hasS []) (hasN []) (lkR []))
        (fun j => j ≤ xs.length) (fun j => xs.length - j) 0 ?_ (Nat.zero_le _) ?_
      · simp -implicitDefEqProofs only [hn, go_sem, simprocAttr]
        try rfl
      intro j hj
      try dsimp only
      have ej : (j : Int) + 1 = ((j + 1 : Nat) : Int) := by omega
      by_cases hjn : j = xs.length
      · subst hjn
        rw [List.take_length, hany]
        cases gb with
        | false =>
          have hgi := hfst rfl
          subst hgi
          repeat' first
           | with_reducible refine Rl.go (by constructor <;> decide) ?_
           | ((with_reducible first | refine hK _ ?_ | refine hK.1 ?_ | refine hK.2 ?_); clear hK K)
           | ((with_reducible refine condS hK (fun hg => ?_) fun hg => ?_) <;> clear hK K <;> (try simp only [hgW] at hg) <;> try (exfalso; omega))
           | ((first | ((with_reducible first | refine Rk.go k8_VsNGets (by constructor) ?_ | refine Rd.go 16 k8_VsNGets a8_16_VsNGets o8_16_VsNGets mixed (by constructor) (by kernel_rfl) (by kernel_rfl) ?_); intro K hK) | with_reducible refine Rr.go [] (by constructor) ?_ | (with_reducible refine guardP_split (fun hg => ?_) fun hg => ?_) <;> (try simp only [hg]) <;> (try simp only [hgW] at hg) | refine Rc.go (c22a n1) (by constructor) ?_ | refine Rc.go (c22b n1) (by constructor) ?_ | refine Rc.go c23a (by constructor) ?_) <;> simp -implicitDefEqProofs only [hwv, hn, go_sem, simprocAttr] <;> try (simp (disch := omega) only [wrW]; try simp -implicitDefEqProofs only [hwv, hn, go_sem, simprocAttr]))
           | with_reducible refine And.intro (by first | omega | (simp only [hgW]; omega)) ?_
           | (exfalso; omega)
        | true =>
          rw [if_pos rfl] at hgr
          subst hgr
          repeat' first
           | with_reducible refine Rl.go (by constructor <;> decide) ?_
           | ((with_reducible first | refine hK _ ?_ | refine hK.1 ?_ | refine hK.2 ?_); clear hK K)
           | ((with_reducible refine condS hK (fun hg => ?_) fun hg => ?_) <;> clear hK K <;> (try simp only [hgW] at hg) <;> try (exfalso; omega))
           | ((first | ((with_reducible first | refine Rk.go k8_VsNGets (by constructor) ?_ | refine Rd.go 16 k8_VsNGets a8_16_VsNGets o8_16_VsNGets mixed (by constructor) (by kernel_rfl) (by kernel_rfl) ?_); intro K hK) | with_reducible refine Rr.go [] (by constructor) ?_ | (with_reducible refine guardP_split (fun hg => ?_) fun hg => ?_) <;> (try simp only [hg]) <;> (try simp only [hgW] at hg) | refine Rc.go (c22a n1) (by constructor) ?_ | refine Rc.go (c22b n1) (by constructor) ?_ | refine Rc.go c23a (by constructor) ?_) <;> simp -implicitDefEqProofs only [hwv, hn, go_sem, simprocAttr] <;> try (simp (disch := omega) only [wrW]; try simp -implicitDefEqProofs only [hwv, hn, go_sem, simprocAttr]))
           | with_reducible refine And.intro (by first | omega | (simp only [hgW]; omega)) ?_
           | (exfalso; omega)
      · have htk : (xs.take (j + 1)).any (fun x => x == t) = ((xs.take j).any (fun x => x == t) || (xs.getD j default == t)) := by
          rw [List.take_succ_eq_append_getElem (show j < xs.length by omega), List.any_append, List.getD_eq_getElem?_getD, List.getElem?_eq_getElem (show j < xs.length by omega)]
          simp
        obtain ⟨a, ha⟩ : ∃ a, xs.getD j default = a := ⟨_, rfl⟩
        rw [ha] at htk
        obtain ⟨q, hq⟩ : ∃ q, (xs.take j).any (fun x => x == t) = q := ⟨_, rfl⟩
        rw [hq] at htk ⊢
        cases q with
        | true =>
          repeat' first
           | with_reducible refine Rl.go (by constructor <;> decide) ?_
           | ((with_reducible first | refine hK _ ?_ | refine hK.1 ?_ | refine hK.2 ?_); clear hK K)
           | ((with_reducible refine condS hK (fun hg => ?_) fun hg => ?_) <;> clear hK K <;> (try simp only [hgW] at hg) <;> try (exfalso; omega))
           | ((first | ((with_reducible first | refine Rk.go k8_VsNGets (by constructor) ?_ | refine Rd.go 16 k8_VsNGets a8_16_VsNGets o8_16_VsNGets mixed (by constructor) (by kernel_rfl) (by kernel_rfl) ?_); intro K hK) | with_reducible refine Rr.go [] (by constructor) ?_ | (with_reducible refine guardP_split (fun hg => ?_) fun hg => ?_) <;> (try simp only [hg]) <;> (try simp only [hgW] at hg)) <;> simp -implicitDefEqProofs only [ha, hn, go_sem, simprocAttr] <;> try (simp (disch := omega) only [wrW]; try simp -implicitDefEqProofs only [ha, hn, go_sem, simprocAttr]))
           | with_reducible refine And.intro (by first | omega | (simp only [hgW]; omega)) ?_
           | (exfalso; omega)
          refine ⟨j + 1, ?_, by omega, by omega⟩
          rw [ej, htk]
          simp -implicitDefEqProofs only [hn, go_sem, simprocAttr]
          try rfl
        | false =>
          repeat' first
           | with_reducible refine Rl.go (by constructor <;> decide) ?_
           | ((with_reducible first | refine hK _ ?_ | refine hK.1 ?_ | refine hK.2 ?_); clear hK K)
           | ((with_reducible refine condS hK (fun hg => ?_) fun hg => ?_) <;> clear hK K <;> (try simp only [hgW] at hg) <;> try (exfalso; omega))
           | ((first | ((with_reducible first | refine Rk.go k8_VsNGets (by constructor) ?_ | refine Rd.go 16 k8_VsNGets a8_16_VsNGets o8_16_VsNGets mixed (by constructor) (by kernel_rfl) (by kernel_rfl) ?_); intro K hK) | with_reducible refine Rr.go [] (by constructor) ?_ | (with_reducible refine guardP_split (fun hg => ?_) fun hg => ?_) <;> (try simp only [hg]) <;> (try simp only [hgW] at hg)) <;> simp -implicitDefEqProofs only [ha, hn, go_sem, simprocAttr] <;> try (simp (disch := omega) only [wrW]; try simp -implicitDefEqProofs only [ha, hn, go_sem, simprocAttr]))
           | with_reducible refine And.intro (by first | omega | (simp only [hgW]; omega)) ?_
           | (exfalso; omega)
          refine ⟨j + 1, ?_, by omega, by omega⟩
          rw [ej, htk]
          simp -implicitDefEqProofs only [hn, go_sem, simprocAttr]
          try rfl
    · have hz : memG gs i = [] := by unfold memG; rw [if_neg h0]
      have hxm : ([] : List (List UInt8)) = (memG gs i).map Prod.fst := by rw [hz]; rfl
      have c22a := f22_ok nb true gs i [] (s.toNat : Int) (by omega) hm' hxm
      have c22b := f22_ok nb true gs i [] (-1) (by omega) hm' hxm
      have c23a := c23 0
      rw [cnt_neg] at c22b
      rw [cnt_some] at c22a
      rw [hz] at c20 c21 c22a c22b
      have c20' : CallsP Tryd.prog 20 [.sl none nb 4 (gs.map GN.av), .int .i64 i, .str t] (.tup [.int .i64 0, .bool false]) := c20
      rw [getR_nil] at c21
      obtain ⟨v, hv⟩ : ∃ v : Int, (if (s.toNat : Int) = 0 then ((0 : Nat) : Int) else (s.toNat : Int)) = v := ⟨_, rfl⟩
      have hv0 : 0 ≤ v := by rw [← hv]; split <;> omega
      have hvn : (if v < 0 then v else 0) = 0 := if_neg (by omega)
      rw [show (([] : List (List UInt8 × Int)).length) = 0 from rfl, hv, show min ((0 : Nat) : Int) v = 0 by omega] at c22a
      rw [hv] at c23a
      by_cases h1 : 0 ≤ i
      · skip
        repeat' first
         | with_reducible refine Rl.go (by constructor <;> decide) ?_
         | ((with_reducible first | refine hK _ ?_ | refine hK.1 ?_ | refine hK.2 ?_); clear hK K)
         | ((with_reducible refine condS hK (fun hg => ?_) fun hg => ?_) <;> clear hK K <;> (try simp only [hgW] at hg) <;> try (exfalso; omega))
         | ((first | ((with_reducible first | refine Rk.go k8_VsNGets (by constructor) ?_ | refine Rd.go 16 k8_VsNGets a8_16_VsNGets o8_16_VsNGets mixed (by constructor) (by kernel_rfl) (by kernel_rfl) ?_); intro K hK) | with_reducible refine Rr.go [] (by constructor) ?_ | (with_reducible refine guardP_split (fun hg => ?_) fun hg => ?_) <;> (try simp only [hg]) <;> (try simp only [hgW] at hg) | refine Rc.go (c20') (by constructor) ?_ | refine Rc.go c21 (by constructor) ?_ | refine Rc.go c22a (by constructor) ?_ | refine Rc.go c22b (by constructor) ?_ | refine Rc.go c23a (by constructor) ?_) <;> simp -implicitDefEqProofs only [hvn, hn, go_sem, simprocAttr] <;> try (simp (disch := omega) only [wrW]; try simp -implicitDefEqProofs only [hvn, hn, go_sem, simprocAttr]))
         | with_reducible refine And.intro (by first | omega | (simp only [hgW]; omega)) ?_
         | (exfalso; omega)
      · skip
        repeat' first
         | with_reducible refine Rl.go (by constructor <;> decide) ?_
         | ((with_reducible first | refine hK _ ?_ | refine hK.1 ?_ | refine hK.2 ?_); clear hK K)
         | ((with_reducible refine condS hK (fun hg => ?_) fun hg => ?_) <;> clear hK K <;> (try simp only [hgW] at hg) <;> try (exfalso; omega))
         | ((first | ((with_reducible first | refine Rk.go k8_VsNGets (by constructor) ?_ | refine Rd.go 16 k8_VsNGets a8_16_VsNGets o8_16_VsNGets mixed (by constructor) (by kernel_rfl) (by kernel_rfl) ?_); intro K hK) | with_reducible refine Rr.go [] (by constructor) ?_ | (with_reducible refine guardP_split (fun hg => ?_) fun hg => ?_) <;> (try simp only [hg]) <;> (try simp only [hgW] at hg) | refine Rc.go (c20') (by constructor) ?_ | refine Rc.go c21 (by constructor) ?_ | refine Rc.go c22a (by constructor) ?_ | refine Rc.go c22b (by constructor) ?_ | refine Rc.go c23a (by constructor) ?_) <;> simp -implicitDefEqProofs only [hvn, hn, go_sem, simprocAttr] <;> try (simp (disch := omega) only [wrW]; try simp -implicitDefEqProofs only [hvn, hn, go_sem, simprocAttr]))
         | with_reducible refine And.intro (by first | omega | (simp only [hgW]; omega)) ?_
         | (exfalso; omega)
  · obtain ⟨g, hgg⟩ : ∃ g, gs.getD j default = g := ⟨_, rfl⟩
    have hgm := hm0 g (by rw [← hgg, List.getD_eq_getElem?_getD, List.getElem?_eq_getElem (show j < gs.length by omega)]; exact List.getElem_mem _)
    by_cases hb : bigG g
    · obtain ⟨gk, gt, n1, ns, n2, ks⟩ := g
      simp only [bigG] at hb hgm
      obtain ⟨hg1, hg2⟩ := hgm
      by_cases hb1 : 100 < ns.length
      · skip
        repeat' first
         | with_reducible refine Rl.go (by constructor <;> decide) ?_
         | ((with_reducible first | refine hK _ ?_ | refine hK.1 ?_ | refine hK.2 ?_); clear hK K)
         | ((with_reducible refine condS hK (fun hg => ?_) fun hg => ?_) <;> clear hK K <;> (try simp only [hgW] at hg) <;> try (exfalso; omega))
         | ((first | ((with_reducible first | refine Rk.go k8_VsNGets (by constructor) ?_ | refine Rd.go 16 k8_VsNGets a8_16_VsNGets o8_16_VsNGets mixed (by constructor) (by kernel_rfl) (by kernel_rfl) ?_); intro K hK) | with_reducible refine Rr.go [] (by constructor) ?_ | (with_reducible refine guardP_split (fun hg => ?_) fun hg => ?_) <;> (try simp only [hg]) <;> (try simp only [hgW] at hg)) <;> simp -implicitDefEqProofs only [hgg, GN.av, hn, go_sem, simprocAttr] <;> try (simp (disch := omega) only [wrW]; try simp -implicitDefEqProofs only [hgg, GN.av, hn, go_sem, simprocAttr]))
         | with_reducible refine And.intro (by first | omega | (simp only [hgW]; omega)) ?_
         | (exfalso; omega)
      · skip
        repeat' first
         | with_reducible refine Rl.go (by constructor <;> decide) ?_
         | ((with_reducible first | refine hK _ ?_ | refine hK.1 ?_ | refine hK.2 ?_); clear hK K)
         | ((with_reducible refine condS hK (fun hg => ?_) fun hg => ?_) <;> clear hK K <;> (try simp only [hgW] at hg) <;> try (exfalso; omega))
         | ((first | ((with_reducible first | refine Rk.go k8_VsNGets (by constructor) ?_ | refine Rd.go 16 k8_VsNGets a8_16_VsNGets o8_16_VsNGets mixed (by constructor) (by kernel_rfl) (by kernel_rfl) ?_); intro K hK) | with_reducible refine Rr.go [] (by constructor) ?_ | (with_reducible refine guardP_split (fun hg => ?_) fun hg => ?_) <;> (try simp only [hg]) <;> (try simp only [hgW] at hg)) <;> simp -implicitDefEqProofs only [hgg, GN.av, hn, go_sem, simprocAttr] <;> try (simp (disch := omega) only [wrW]; try simp -implicitDefEqProofs only [hgg, GN.av, hn, go_sem, simprocAttr]))
         | with_reducible refine And.intro (by first | omega | (simp only [hgW]; omega)) ?_
         | (exfalso; omega)
    · have hs2 : ∀ k < j + 1, ¬ bigG (gs.getD k default) := fun k hk => by
        by_cases h : k = j
        · rw [h, hgg]; exact hb
        · exact hsm k (by omega)
      obtain ⟨gk, gt, n1, ns, n2, ks⟩ := g
      simp only [bigG] at hb hgm
      obtain ⟨hg1, hg2⟩ := hgm
      repeat' first
       | with_reducible refine Rl.go (by constructor <;> decide) ?_
       | ((with_reducible first | refine hK _ ?_ | refine hK.1 ?_ | refine hK.2 ?_); clear hK K)
       | ((with_reducible refine condS hK (fun hg => ?_) fun hg => ?_) <;> clear hK K <;> (try simp only [hgW] at hg) <;> try (exfalso; omega))
       | ((first | ((with_reducible first | refine Rk.go k8_VsNGets (by constructor) ?_ | refine Rd.go 16 k8_VsNGets a8_16_VsNGets o8_16_VsNGets mixed (by constructor) (by kernel_rfl) (by kernel_rfl) ?_); intro K hK) | with_reducible refine Rr.go [] (by constructor) ?_ | (with_reducible refine guardP_split (fun hg => ?_) fun hg => ?_) <;> (try simp only [hg]) <;> (try simp only [hgW] at hg)) <;> simp -implicitDefEqProofs only [hgg, GN.av, hn, go_sem, simprocAttr] <;> try (simp (disch := omega) only [wrW]; try simp -implicitDefEqProofs only [hgg, GN.av, hn, go_sem, simprocAttr]))
       | with_reducible refine And.intro (by first | omega | (simp only [hgW]; omega)) ?_
       | (exfalso; omega)
      refine ⟨j + 1, ?_, ⟨by omega, hs2⟩, by omega⟩
      rw [ej]
      simp -implicitDefEqProofs only [hn, go_sem, simprocAttr]
      try rfl
end Go.Proofs.YtfemncfhiihckaaDoor
