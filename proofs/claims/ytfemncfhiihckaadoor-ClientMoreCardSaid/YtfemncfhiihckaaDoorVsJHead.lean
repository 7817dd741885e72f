/- What the reader's small functions come to. -/
import Derived.Test.YtfemncfhiihckaaDoorVsTy
import Derived.Test.YtfemncfhiihckaaDoorVsTree
open Go Go.VS
namespace Go.Proofs.YtfemncfhiihckaaDoor
set_option linter.unusedVariables false
set_option linter.unusedSimpArgs false
set_option maxRecDepth 20000
set_option maxHeartbeats 4000000
/-- A node: its kind, its text, its names, its kids. -/
structure JN where
  k : Nat
  t : List UInt8
  ns : List (List UInt8)
  ks : List Nat
def i64n (k : Nat) : AV := .int .i64 (k : Int)
def JN.av (n : JN) : AV := .agg [.int .u8 (n.k : Int), .str n.t, .sl none n.ns.isEmpty 1 (n.ns.map .str), .sl none n.ks.isEmpty 1 (n.ks.map i64n)]
/-- What a reader holds. -/
structure RJ where
  b : List UInt8
  at_ : Nat
  deep : Nat
  nodes : List JN
  err : Nat
def RJ.cells (s : RJ) (nb : Bool) (g : Stamp) : List AV := [.sl none nb 1 (s.b.map u8), .int .i64 (s.at_ : Int), .int .i64 (s.deep : Int), .sl (some (g, 0)) s.nodes.isEmpty 4 (s.nodes.map JN.av), .int .i64 (s.err : Int)]
def RJ.fail (s : RJ) (e : Nat) : RJ := if s.err = 0 then { s with err := e } else s
def k33_VsJHead : List Nat := [0,1,8]
attribute [go_sem] k33_VsJHead
theorem f33_ok (s : RJ) (nb : Bool) (e : Nat) : CallsB Tryd.prog 33 [.ptr 1000000 0, .int .i64 (e : Int)] [s.cells nb (4, 0)] (.tup []) [(s.fail e).cells nb (3, 0)] := by
  obtain ⟨b, at_, deep, nodes, err⟩ := s
  by_cases he : err = 0
  · subst he
    have e1 : (RJ.mk b at_ deep nodes 0).fail e = ⟨b, at_, deep, nodes, e⟩ := rfl
    rw [e1]
    refine CallsB.intro Tryd.func33 rfl (by show 2 ≤ 13; decide) ?_
    rintro X hX
    have hn : X.n = 13 := hX
    unfold Tryd.f33
    dsimp only
    rw [entryB21]
    repeat' first
     | with_reducible refine Rl.go (by constructor <;> decide) ?_
     | ((with_reducible first | refine hK _ ?_ | refine hK.1 ?_ | refine hK.2 ?_); clear hK K)
     | ((with_reducible refine condS hK (fun hg => ?_) fun hg => ?_) <;> clear hK K <;> (try simp only [hgW] at hg) <;> try (exfalso; omega))
     | ((first | ((with_reducible first | refine Rk.go k33_VsJHead (by constructor) ?_); intro K hK) | with_reducible refine Rr.go [] (by constructor) ?_ | (with_reducible refine guardP_split (fun hg => ?_) fun hg => ?_) <;> (try simp only [hg]) <;> (try simp only [hgW] at hg)) <;> simp -implicitDefEqProofs only [RJ.cells, hn, go_sem, simprocAttr] <;> try (simp (disch := omega) only [wrW]; try simp -implicitDefEqProofs only [RJ.cells, hn, go_sem, simprocAttr]))
     | with_reducible refine And.intro (by first | omega | (simp only [hgW]; omega)) ?_
     | (exfalso; omega)
  · have e1 : (RJ.mk b at_ deep nodes err).fail e = ⟨b, at_, deep, nodes, err⟩ := by unfold RJ.fail; rw [if_neg he]
    rw [e1]
    refine CallsB.intro Tryd.func33 rfl (by show 2 ≤ 13; decide) ?_
    rintro X hX
    have hn : X.n = 13 := hX
    unfold Tryd.f33
    dsimp only
    rw [entryB21]
    repeat' first
     | with_reducible refine Rl.go (by constructor <;> decide) ?_
     | ((with_reducible first | refine hK _ ?_ | refine hK.1 ?_ | refine hK.2 ?_); clear hK K)
     | ((with_reducible refine condS hK (fun hg => ?_) fun hg => ?_) <;> clear hK K <;> (try simp only [hgW] at hg) <;> try (exfalso; omega))
     | ((first | ((with_reducible first | refine Rk.go k33_VsJHead (by constructor) ?_); intro K hK) | with_reducible refine Rr.go [] (by constructor) ?_ | (with_reducible refine guardP_split (fun hg => ?_) fun hg => ?_) <;> (try simp only [hg]) <;> (try simp only [hgW] at hg)) <;> simp -implicitDefEqProofs only [RJ.cells, he, hn, go_sem, simprocAttr] <;> try (simp (disch := omega) only [wrW]; try simp -implicitDefEqProofs only [RJ.cells, he, hn, go_sem, simprocAttr]))
     | with_reducible refine And.intro (by first | omega | (simp only [hgW]; omega)) ?_
     | (exfalso; omega)
def k56_VsJHead : List Nat := [0,13]
attribute [go_sem] k56_VsJHead
theorem f56_ok (s : RJ) (nb : Bool) (hd : s.deep ≤ 1000) (ha : s.at_ ≤ 1000000) : CallsB Tryd.prog 56 [.ptr 1000000 0] [s.cells nb (4, 0)] (.tup [])
    [RJ.cells { (if 8 < s.deep + 1 then ({ s with deep := s.deep + 1 } : RJ).fail 13 else { s with deep := s.deep + 1 }) with at_ := s.at_ + 1 } nb (3, 0)] := by
  obtain ⟨b, at_, deep, nodes, err⟩ := s
  simp only at hd ha
  have e1 : (deep : Int) + 1 = ((deep + 1 : Nat) : Int) := by omega
  have e2 : (at_ : Int) + 1 = ((at_ + 1 : Nat) : Int) := by omega
  have c33 := f33_ok ⟨b, at_, deep + 1, nodes, err⟩ nb 13
  by_cases h8 : 8 < deep + 1
  · simp only [h8, if_true]
    obtain ⟨R, hR⟩ : ∃ R, (RJ.mk b at_ (deep + 1) nodes err).fail 13 = R := ⟨_, rfl⟩
    have hRa : R = ⟨b, at_, deep + 1, nodes, if err = 0 then 13 else err⟩ := by
      rw [← hR]; unfold RJ.fail; split <;> simp [*]
    rw [hR] at c33 ⊢
    subst hRa
    refine CallsB.intro Tryd.func56 rfl (by show 1 ≤ 23; decide) ?_
    rintro X hX
    have hn : X.n = 23 := hX
    unfold Tryd.f56
    dsimp only
    rw [entryB11]
    repeat' first
     | with_reducible refine Rl.go (by constructor <;> decide) ?_
     | ((with_reducible first | refine hK _ ?_ | refine hK.1 ?_ | refine hK.2 ?_); clear hK K)
     | ((with_reducible refine condS hK (fun hg => ?_) fun hg => ?_) <;> clear hK K <;> (try simp only [hgW] at hg) <;> try (exfalso; omega))
     | ((first | ((with_reducible first | refine Rk.go k56_VsJHead (by constructor) ?_); intro K hK) | with_reducible refine Rr.go [] (by constructor) ?_ | (with_reducible refine guardP_split (fun hg => ?_) fun hg => ?_) <;> (try simp only [hg]) <;> (try simp only [hgW] at hg) | (with_reducible refine callE_B3 c33 ?_)) <;> simp -implicitDefEqProofs only [eqOk_true, RJ.cells, e1, e2, hn, go_sem, simprocAttr] <;> try (simp (disch := omega) only [wrW]; try simp -implicitDefEqProofs only [RJ.cells, e1, e2, hn, go_sem, simprocAttr]))
     | with_reducible refine And.intro (by first | omega | (simp only [hgW]; omega)) ?_
     | (exfalso; omega)
  · simp only [h8, if_false]
    refine CallsB.intro Tryd.func56 rfl (by show 1 ≤ 23; decide) ?_
    rintro X hX
    have hn : X.n = 23 := hX
    unfold Tryd.f56
    dsimp only
    rw [entryB11]
    repeat' first
     | with_reducible refine Rl.go (by constructor <;> decide) ?_
     | ((with_reducible first | refine hK _ ?_ | refine hK.1 ?_ | refine hK.2 ?_); clear hK K)
     | ((with_reducible refine condS hK (fun hg => ?_) fun hg => ?_) <;> clear hK K <;> (try simp only [hgW] at hg) <;> try (exfalso; omega))
     | ((first | ((with_reducible first | refine Rk.go k56_VsJHead (by constructor) ?_); intro K hK) | with_reducible refine Rr.go [] (by constructor) ?_ | (with_reducible refine guardP_split (fun hg => ?_) fun hg => ?_) <;> (try simp only [hg]) <;> (try simp only [hgW] at hg)) <;> simp -implicitDefEqProofs only [RJ.cells, e1, e2, hn, go_sem, simprocAttr] <;> try (simp (disch := omega) only [wrW]; try simp -implicitDefEqProofs only [RJ.cells, e1, e2, hn, go_sem, simprocAttr]))
     | with_reducible refine And.intro (by first | omega | (simp only [hgW]; omega)) ?_
     | (exfalso; omega)
/-- Blanks. -/
def blank (c : UInt8) : Bool := c == 32 || c == 9 || c == 10 || c == 13
def nextAt (b : List UInt8) (i : Nat) : Nat := i + ((b.drop i).takeWhile blank).length
theorem nextAt_end (b : List UInt8) (i : Nat) (h : b.length ≤ i) : nextAt b i = i := by
  unfold nextAt
  rw [List.drop_of_length_le h]
  rfl
theorem drop_at (b : List UInt8) (i : Nat) (h : i < b.length) : b.drop i = b.getD i default :: b.drop (i + 1) := by
  rw [List.drop_eq_getElem_cons h, List.getD_eq_getElem?_getD, List.getElem?_eq_getElem h]
  rfl
theorem nextAt_step (b : List UInt8) (i : Nat) (h : i < b.length) (hc : blank (b.getD i default) = true) : nextAt b i = nextAt b (i + 1) := by
  unfold nextAt
  rw [drop_at b i h, List.takeWhile_cons, if_pos hc]
  simp only [List.length_cons]
  omega
theorem nextAt_stop (b : List UInt8) (i : Nat) (h : i < b.length) (hc : blank (b.getD i default) = false) : nextAt b i = i := by
  unfold nextAt
  rw [drop_at b i h, List.takeWhile_cons, if_neg (by rw [hc]; exact Bool.false_ne_true)]
  rfl
/-- The byte that is next, behind blanks. -/
def hereS (s : RJ) : UInt8 × RJ :=
  if s.err ≠ 0 then (0, s)
  else if nextAt s.b s.at_ < s.b.length then (s.b.getD (nextAt s.b s.at_) default, { s with at_ := nextAt s.b s.at_ })
  else (0, { s with at_ := nextAt s.b s.at_ })
def k32_VsJHead : List Nat := [0,2,3,20,38,40]
def a32_1_VsJHead : List Nat := [0,1,3,7,15,31,63,127,255,511,63,1087,3135,7231,15423,32767,65535]
def o32_1_VsJHead : List Nat := [0,1,2,3,4,5,6,7,8,9,10,11,12,13,14,15,16]
def a32_3_VsJHead : List Nat := [0,1,3,7,0,16,48,112,255,511,1023]
def o32_3_VsJHead : List Nat := [0,1,2,3,4,5,6,7,8,9,10]
attribute [go_sem] k32_VsJHead a32_1_VsJHead o32_1_VsJHead a32_3_VsJHead o32_3_VsJHead
theorem f32_ok (s : RJ) (nb : Bool) (ha : s.b.length ≤ 1000000) : CallsB Tryd.prog 32 [.ptr 1000000 0] [s.cells nb (4, 0)] (.int .u8 ((hereS s).1.toNat : Int)) [(hereS s).2.cells nb (3, 0)] := by
  obtain ⟨b, at_, deep, nodes, err⟩ := s
  simp only at ha
  by_cases he : err = 0
  · subst he
    obtain ⟨R, hR⟩ : ∃ R, hereS ⟨b, at_, deep, nodes, 0⟩ = R := ⟨_, rfl⟩
    rw [hR]
    have h0 : hereS ⟨b, at_, deep, nodes, 0⟩ = if nextAt b at_ < b.length then (b.getD (nextAt b at_) default, ⟨b, nextAt b at_, deep, nodes, 0⟩) else (0, ⟨b, nextAt b at_, deep, nodes, 0⟩) := rfl
    rw [h0] at hR
    refine CallsB.intro Tryd.func32 rfl (by show 1 ≤ 45; decide) ?_
    rintro X hX
    have hn : X.n = 45 := hX
    unfold Tryd.f32
    dsimp only
    rw [entryB11]
    repeat' first
     | with_reducible refine Rl.go (by constructor <;> decide) ?_
     | ((with_reducible first | refine hK _ ?_ | refine hK.1 ?_ | refine hK.2 ?_); clear hK K)
     | ((with_reducible refine condS hK (fun hg => ?_) fun hg => ?_) <;> clear hK K <;> (try simp only [hgW] at hg) <;> try (exfalso; omega))
     | ((first | ((with_reducible first | refine Rk.go k32_VsJHead (by constructor) ?_ | refine Rd.go 1 k32_VsJHead a32_1_VsJHead o32_1_VsJHead mixed (by constructor) (by kernel_rfl) (by kernel_rfl) ?_ | refine Rd.go 3 k32_VsJHead a32_3_VsJHead o32_3_VsJHead mixed (by constructor) (by kernel_rfl) (by kernel_rfl) ?_); intro K hK) | with_reducible refine Rr.go [] (by constructor) ?_ | (with_reducible refine guardP_split (fun hg => ?_) fun hg => ?_) <;> (try simp only [hg]) <;> (try simp only [hgW] at hg)) <;> simp -implicitDefEqProofs only [RJ.cells, hn, go_sem, simprocAttr] <;> try (simp (disch := omega) only [wrW]; try simp -implicitDefEqProofs only [RJ.cells, hn, go_sem, simprocAttr]))
     | with_reducible refine And.intro (by first | omega | (simp only [hgW]; omega)) ?_
     | (exfalso; omega)
    refine AWP.loopX [0, 2] [] (fun i : Nat => St.mk (lk [(0, .ptr 1000000 0), (2, .int .u8 0)]) (lkB [(1000000, (RJ.mk b i deep nodes 0).cells nb (4, 0))]) (hasS []) (hasS []) (hasN []) (lkR []))
      (fun i => nextAt b i = nextAt b at_) (fun i => b.length + 1 - i) at_ ?_ rfl ?_
    · simp -implicitDefEqProofs only [RJ.cells, hn, go_sem, simprocAttr]
      try rfl
    rintro i hi
    by_cases hl : b.length ≤ i
    · have hend := nextAt_end b i hl
      rw [hend] at hi
      rw [← hi, if_neg (by omega)] at hR
      subst hR
      repeat' first
       | with_reducible refine Rl.go (by constructor <;> decide) ?_
       | ((with_reducible first | refine hK _ ?_ | refine hK.1 ?_ | refine hK.2 ?_); clear hK K)
       | ((with_reducible refine condS hK (fun hg => ?_) fun hg => ?_) <;> clear hK K <;> (try simp only [hgW] at hg) <;> try (exfalso; omega))
       | ((first | ((with_reducible first | refine Rk.go k32_VsJHead (by constructor) ?_ | refine Rd.go 1 k32_VsJHead a32_1_VsJHead o32_1_VsJHead mixed (by constructor) (by kernel_rfl) (by kernel_rfl) ?_ | refine Rd.go 3 k32_VsJHead a32_3_VsJHead o32_3_VsJHead mixed (by constructor) (by kernel_rfl) (by kernel_rfl) ?_); intro K hK) | with_reducible refine Rr.go [] (by constructor) ?_ | (with_reducible refine guardP_split (fun hg => ?_) fun hg => ?_) <;> (try simp only [hg]) <;> (try simp only [hgW] at hg)) <;> simp -implicitDefEqProofs only [RJ.cells, hn, go_sem, simprocAttr] <;> try (simp (disch := omega) only [wrW]; try simp -implicitDefEqProofs only [RJ.cells, hn, go_sem, simprocAttr]))
       | with_reducible refine And.intro (by first | omega | (simp only [hgW]; omega)) ?_
       | (exfalso; omega)
    obtain ⟨c, hc⟩ : ∃ c, b.getD i default = c := ⟨_, rfl⟩
    have hct := c.toNat_lt
    have e2 : (i : Int) + 1 = ((i + 1 : Nat) : Int) := by omega
    have hcn : ∀ n : Nat, n < 256 → (c = UInt8.ofNat n ↔ c.toNat = n) := fun n hn => by
      constructor
      · rintro rfl; simp; omega
      · intro h; apply UInt8.toNat_inj.1; simp [h]; omega
    by_cases hb : blank c = true
    · have hst := nextAt_step b i (by omega) (by rw [hc]; exact hb)
      have hcc : c.toNat = 32 ∨ c.toNat = 9 ∨ c.toNat = 10 ∨ c.toNat = 13 := by
        simp only [blank, Bool.or_eq_true, beq_iff_eq] at hb
        rcases hb with ((rfl | rfl) | rfl) | rfl <;> simp
      rcases hcc with h | h | h | h
      all_goals have hci : (c.toNat : Int) = _ := congrArg (fun n : Nat => (n : Int)) h
      all_goals simp only [Int.cast_ofNat_Int] at hci
      · skip
        repeat' first
         | with_reducible refine Rl.go (by constructor <;> decide) ?_
         | ((with_reducible first | refine hK _ ?_ | refine hK.1 ?_ | refine hK.2 ?_); clear hK K)
         | ((with_reducible refine condS hK (fun hg => ?_) fun hg => ?_) <;> clear hK K <;> (try simp only [hgW] at hg) <;> try (exfalso; omega))
         | ((first | ((with_reducible first | refine Rk.go k32_VsJHead (by constructor) ?_ | refine Rd.go 1 k32_VsJHead a32_1_VsJHead o32_1_VsJHead mixed (by constructor) (by kernel_rfl) (by kernel_rfl) ?_ | refine Rd.go 3 k32_VsJHead a32_3_VsJHead o32_3_VsJHead mixed (by constructor) (by kernel_rfl) (by kernel_rfl) ?_); intro K hK) | with_reducible refine Rr.go [] (by constructor) ?_ | (with_reducible refine guardP_split (fun hg => ?_) fun hg => ?_) <;> (try simp only [hg]) <;> (try simp only [hgW] at hg)) <;> simp -implicitDefEqProofs only [RJ.cells, hc, hci, u8, hn, go_sem, simprocAttr] <;> try (simp (disch := omega) only [wrW]; try simp -implicitDefEqProofs only [RJ.cells, hc, hci, u8, hn, go_sem, simprocAttr]))
         | with_reducible refine And.intro (by first | omega | (simp only [hgW]; omega)) ?_
         | (exfalso; omega)
        refine ⟨i + 1, ?_, by rw [← hst]; exact hi, by omega⟩
        rw [e2]
        simp -implicitDefEqProofs only [RJ.cells, hn, go_sem, simprocAttr]
        try rfl
      · skip
        repeat' first
         | with_reducible refine Rl.go (by constructor <;> decide) ?_
         | ((with_reducible first | refine hK _ ?_ | refine hK.1 ?_ | refine hK.2 ?_); clear hK K)
         | ((with_reducible refine condS hK (fun hg => ?_) fun hg => ?_) <;> clear hK K <;> (try simp only [hgW] at hg) <;> try (exfalso; omega))
         | ((first | ((with_reducible first | refine Rk.go k32_VsJHead (by constructor) ?_ | refine Rd.go 1 k32_VsJHead a32_1_VsJHead o32_1_VsJHead mixed (by constructor) (by kernel_rfl) (by kernel_rfl) ?_ | refine Rd.go 3 k32_VsJHead a32_3_VsJHead o32_3_VsJHead mixed (by constructor) (by kernel_rfl) (by kernel_rfl) ?_); intro K hK) | with_reducible refine Rr.go [] (by constructor) ?_ | (with_reducible refine guardP_split (fun hg => ?_) fun hg => ?_) <;> (try simp only [hg]) <;> (try simp only [hgW] at hg)) <;> simp -implicitDefEqProofs only [RJ.cells, hc, hci, u8, hn, go_sem, simprocAttr] <;> try (simp (disch := omega) only [wrW]; try simp -implicitDefEqProofs only [RJ.cells, hc, hci, u8, hn, go_sem, simprocAttr]))
         | with_reducible refine And.intro (by first | omega | (simp only [hgW]; omega)) ?_
         | (exfalso; omega)
        refine ⟨i + 1, ?_, by rw [← hst]; exact hi, by omega⟩
        rw [e2]
        simp -implicitDefEqProofs only [RJ.cells, hn, go_sem, simprocAttr]
        try rfl
      · skip
        repeat' first
         | with_reducible refine Rl.go (by constructor <;> decide) ?_
         | ((with_reducible first | refine hK _ ?_ | refine hK.1 ?_ | refine hK.2 ?_); clear hK K)
         | ((with_reducible refine condS hK (fun hg => ?_) fun hg => ?_) <;> clear hK K <;> (try simp only [hgW] at hg) <;> try (exfalso; omega))
         | ((first | ((with_reducible first | refine Rk.go k32_VsJHead (by constructor) ?_ | refine Rd.go 1 k32_VsJHead a32_1_VsJHead o32_1_VsJHead mixed (by constructor) (by kernel_rfl) (by kernel_rfl) ?_ | refine Rd.go 3 k32_VsJHead a32_3_VsJHead o32_3_VsJHead mixed (by constructor) (by kernel_rfl) (by kernel_rfl) ?_); intro K hK) | with_reducible refine Rr.go [] (by constructor) ?_ | (with_reducible refine guardP_split (fun hg => ?_) fun hg => ?_) <;> (try simp only [hg]) <;> (try simp only [hgW] at hg)) <;> simp -implicitDefEqProofs only [RJ.cells, hc, hci, u8, hn, go_sem, simprocAttr] <;> try (simp (disch := omega) only [wrW]; try simp -implicitDefEqProofs only [RJ.cells, hc, hci, u8, hn, go_sem, simprocAttr]))
         | with_reducible refine And.intro (by first | omega | (simp only [hgW]; omega)) ?_
         | (exfalso; omega)
        refine ⟨i + 1, ?_, by rw [← hst]; exact hi, by omega⟩
        rw [e2]
        simp -implicitDefEqProofs only [RJ.cells, hn, go_sem, simprocAttr]
        try rfl
      · skip
        repeat' first
         | with_reducible refine Rl.go (by constructor <;> decide) ?_
         | ((with_reducible first | refine hK _ ?_ | refine hK.1 ?_ | refine hK.2 ?_); clear hK K)
         | ((with_reducible refine condS hK (fun hg => ?_) fun hg => ?_) <;> clear hK K <;> (try simp only [hgW] at hg) <;> try (exfalso; omega))
         | ((first | ((with_reducible first | refine Rk.go k32_VsJHead (by constructor) ?_ | refine Rd.go 1 k32_VsJHead a32_1_VsJHead o32_1_VsJHead mixed (by constructor) (by kernel_rfl) (by kernel_rfl) ?_ | refine Rd.go 3 k32_VsJHead a32_3_VsJHead o32_3_VsJHead mixed (by constructor) (by kernel_rfl) (by kernel_rfl) ?_); intro K hK) | with_reducible refine Rr.go [] (by constructor) ?_ | (with_reducible refine guardP_split (fun hg => ?_) fun hg => ?_) <;> (try simp only [hg]) <;> (try simp only [hgW] at hg)) <;> simp -implicitDefEqProofs only [RJ.cells, hc, hci, u8, hn, go_sem, simprocAttr] <;> try (simp (disch := omega) only [wrW]; try simp -implicitDefEqProofs only [RJ.cells, hc, hci, u8, hn, go_sem, simprocAttr]))
         | with_reducible refine And.intro (by first | omega | (simp only [hgW]; omega)) ?_
         | (exfalso; omega)
        refine ⟨i + 1, ?_, by rw [← hst]; exact hi, by omega⟩
        rw [e2]
        simp -implicitDefEqProofs only [RJ.cells, hn, go_sem, simprocAttr]
        try rfl
    · have hb0 : blank c = false := by simpa using hb
      have hst := nextAt_stop b i (by omega) (by rw [hc]; exact hb0)
      rw [hst] at hi
      rw [← hi, if_pos (by omega), hc] at hR
      subst hR
      have n1 : ¬ (c.toNat : Int) = 32 := fun h => hb (by have : c = 32 := UInt8.toNat_inj.1 (by simp; omega); rw [this]; rfl)
      have n2 : ¬ (c.toNat : Int) = 9 := fun h => hb (by have : c = 9 := UInt8.toNat_inj.1 (by simp; omega); rw [this]; rfl)
      have n3 : ¬ (c.toNat : Int) = 10 := fun h => hb (by have : c = 10 := UInt8.toNat_inj.1 (by simp; omega); rw [this]; rfl)
      have n4 : ¬ (c.toNat : Int) = 13 := fun h => hb (by have : c = 13 := UInt8.toNat_inj.1 (by simp; omega); rw [this]; rfl)
      repeat' first
       | with_reducible refine Rl.go (by constructor <;> decide) ?_
       | ((with_reducible first | refine hK _ ?_ | refine hK.1 ?_ | refine hK.2 ?_); clear hK K)
       | ((with_reducible refine condS hK (fun hg => ?_) fun hg => ?_) <;> clear hK K <;> (try simp only [hgW] at hg) <;> try (exfalso; omega))
       | ((first | ((with_reducible first | refine Rk.go k32_VsJHead (by constructor) ?_ | refine Rd.go 1 k32_VsJHead a32_1_VsJHead o32_1_VsJHead mixed (by constructor) (by kernel_rfl) (by kernel_rfl) ?_ | refine Rd.go 3 k32_VsJHead a32_3_VsJHead o32_3_VsJHead mixed (by constructor) (by kernel_rfl) (by kernel_rfl) ?_); intro K hK) | with_reducible refine Rr.go [] (by constructor) ?_ | (with_reducible refine guardP_split (fun hg => ?_) fun hg => ?_) <;> (try simp only [hg]) <;> (try simp only [hgW] at hg)) <;> simp -implicitDefEqProofs only [RJ.cells, hc, n1, n2, n3, n4, u8, hn, go_sem, simprocAttr] <;> try (simp (disch := omega) only [wrW]; try simp -implicitDefEqProofs only [RJ.cells, hc, n1, n2, n3, n4, u8, hn, go_sem, simprocAttr]))
       | with_reducible refine And.intro (by first | omega | (simp only [hgW]; omega)) ?_
       | (exfalso; omega)
  · have e1 : hereS ⟨b, at_, deep, nodes, err⟩ = (0, ⟨b, at_, deep, nodes, err⟩) := by unfold hereS; rw [if_pos he]
    rw [e1]
    refine CallsB.intro Tryd.func32 rfl (by show 1 ≤ 45; decide) ?_
    rintro X hX
    have hn : X.n = 45 := hX
    unfold Tryd.f32
    dsimp only
    rw [entryB11]
    repeat' first
     | with_reducible (first | refine Rl.go (by constructor <;> decide) ?_ | refine AWP.loopT 1 ?_ | refine AWP.unroll 1 ?_)
     | ((with_reducible first | refine hK _ ?_ | refine hK.1 ?_ | refine hK.2 ?_); clear hK K)
     | ((with_reducible refine condS hK (fun hg => ?_) fun hg => ?_) <;> clear hK K <;> (try simp only [hgW] at hg) <;> try (exfalso; omega))
     | ((first | ((with_reducible first | refine Rk.go k32_VsJHead (by constructor) ?_ | refine Rd.go 1 k32_VsJHead a32_1_VsJHead o32_1_VsJHead mixed (by constructor) (by kernel_rfl) (by kernel_rfl) ?_ | refine Rd.go 3 k32_VsJHead a32_3_VsJHead o32_3_VsJHead mixed (by constructor) (by kernel_rfl) (by kernel_rfl) ?_); intro K hK) | with_reducible refine Rr.go [] (by constructor) ?_ | (with_reducible refine guardP_split (fun hg => ?_) fun hg => ?_) <;> (try simp only [hg]) <;> (try simp only [hgW] at hg)) <;> simp -implicitDefEqProofs only [RJ.cells, he, hn, go_sem, simprocAttr] <;> try (simp (disch := omega) only [wrW]; try simp -implicitDefEqProofs only [RJ.cells, he, hn, go_sem, simprocAttr]))
     | with_reducible refine And.intro (by first | omega | (simp only [hgW]; omega)) ?_
     | (exfalso; omega)
/-- Is it next? It is taken. -/
def signS (s : RJ) (c : UInt8) : Bool × RJ :=
  if (hereS s).1 ≠ c ∨ (hereS s).2.err ≠ 0 ∨ (hereS s).2.b.length ≤ (hereS s).2.at_ then (false, (hereS s).2) else (true, { (hereS s).2 with at_ := (hereS s).2.at_ + 1 })
theorem hereS_b (s : RJ) : (hereS s).2.b = s.b ∧ (hereS s).2.deep = s.deep ∧ (hereS s).2.nodes = s.nodes ∧ (hereS s).2.err = s.err := by
  unfold hereS
  split
  · exact ⟨rfl, rfl, rfl, rfl⟩
  · split <;> exact ⟨rfl, rfl, rfl, rfl⟩
def k58_VsJHead : List Nat := [0,1,4,27]
def b58_1_VsJHead : List Nat := [0,1,0,7,15,31,63,127,255,511,1023,2047,4095,8191,16383,32767,4095,69631,200703,462847,987135,2097151,4194303]
def t58_1_VsJHead : OT := (.br 0 (.br 1 (.rest [2,3,4,5,6,7,8,9,10,11,12,13,14,15,16,17,18,19,20,21,22]) (.br 2 (.br 1 (.rest [3,4,5,6,7,8,9,10,11,12,13,14,15,16,17,18,19,20,21,22]) .stop) .stop)) (.br 2 (.br 0 (.br 1 (.rest [3,4,5,6,7,8,9,10,11,12,13,14,15,16,17,18,19,20,21,22]) .stop) .stop) .stop))
attribute [go_sem] k58_VsJHead b58_1_VsJHead t58_1_VsJHead
theorem f58_ok (s : RJ) (nb : Bool) (ha : s.b.length ≤ 1000000) (hat : s.at_ ≤ 1000000) (c : UInt8) : CallsB Tryd.prog 58 [.ptr 1000000 0, .int .u8 (c.toNat : Int)] [s.cells nb (4, 0)] (.bool (signS s c).1) [(signS s c).2.cells nb (3, 0)] := by
  have c32 := f32_ok s nb ha
  obtain ⟨q1, q2, q3, q4⟩ := hereS_b s
  unfold signS
  generalize hereS s = H at *
  obtain ⟨x, b, at_, deep, nodes, err⟩ := H
  obtain ⟨b0, at0, deep0, nodes0, err0⟩ := s
  simp only at q1 q2 q3 q4 ha hat c32 ⊢
  subst q1 q2 q3 q4
  have hxc : x = c ↔ (x.toNat : Int) = (c.toNat : Int) := ⟨fun h => by rw [h], fun h => UInt8.toNat_inj.1 (by omega)⟩
  have e2 : (at_ : Int) + 1 = ((at_ + 1 : Nat) : Int) := by omega
  by_cases h1 : x = c
  · subst h1
    by_cases h2 : err = 0
    · subst h2
      by_cases h3 : b.length ≤ at_
      · rw [if_pos (.inr (.inr h3))]
        refine CallsB.intro Tryd.func58 rfl (by show 2 ≤ 35; decide) ?_
        rintro X hX
        have hn : X.n = 35 := hX
        unfold Tryd.f58
        dsimp only
        rw [entryB21]
        repeat' first
         | with_reducible refine Rl.go (by constructor <;> decide) ?_
         | ((with_reducible first | refine hK _ ?_ | refine hK.1 ?_ | refine hK.2 ?_); clear hK K)
         | ((with_reducible refine condS hK (fun hg => ?_) fun hg => ?_) <;> clear hK K <;> (try simp only [hgW] at hg) <;> try (exfalso; omega))
         | with_reducible refine both_mk ?_ ?_
         | ((first | ((with_reducible first | refine Rk.go k58_VsJHead (by constructor) ?_ | refine Rt.go 1 k58_VsJHead b58_1_VsJHead t58_1_VsJHead mixed (by constructor) (by kernel_rfl) ?_); intro K hK) | with_reducible refine Rr.go [] (by constructor) ?_ | (with_reducible refine guardP_split (fun hg => ?_) fun hg => ?_) <;> (try simp only [hg]) <;> (try simp only [hgW] at hg) | (with_reducible refine callE_B3 c32 ?_)) <;> simp -implicitDefEqProofs only [eqOk_true, RJ.cells, hn, go_sem, simprocAttr] <;> try (simp (disch := omega) only [wrW]; try simp -implicitDefEqProofs only [RJ.cells, hn, go_sem, simprocAttr]))
         | with_reducible refine And.intro (by first | omega | (simp only [hgW]; omega)) ?_
         | (exfalso; omega)
      · rw [if_neg (by simp; omega)]
        refine CallsB.intro Tryd.func58 rfl (by show 2 ≤ 35; decide) ?_
        rintro X hX
        have hn : X.n = 35 := hX
        unfold Tryd.f58
        dsimp only
        rw [entryB21]
        repeat' first
         | with_reducible refine Rl.go (by constructor <;> decide) ?_
         | ((with_reducible first | refine hK _ ?_ | refine hK.1 ?_ | refine hK.2 ?_); clear hK K)
         | ((with_reducible refine condS hK (fun hg => ?_) fun hg => ?_) <;> clear hK K <;> (try simp only [hgW] at hg) <;> try (exfalso; omega))
         | with_reducible refine both_mk ?_ ?_
         | ((first | ((with_reducible first | refine Rk.go k58_VsJHead (by constructor) ?_ | refine Rt.go 1 k58_VsJHead b58_1_VsJHead t58_1_VsJHead mixed (by constructor) (by kernel_rfl) ?_); intro K hK) | with_reducible refine Rr.go [] (by constructor) ?_ | (with_reducible refine guardP_split (fun hg => ?_) fun hg => ?_) <;> (try simp only [hg]) <;> (try simp only [hgW] at hg) | (with_reducible refine callE_B3 c32 ?_)) <;> simp -implicitDefEqProofs only [eqOk_true, RJ.cells, e2, hn, go_sem, simprocAttr] <;> try (simp (disch := omega) only [wrW]; try simp -implicitDefEqProofs only [RJ.cells, e2, hn, go_sem, simprocAttr]))
         | with_reducible refine And.intro (by first | omega | (simp only [hgW]; omega)) ?_
         | (exfalso; omega)
    · rw [if_pos (.inr (.inl h2))]
      refine CallsB.intro Tryd.func58 rfl (by show 2 ≤ 35; decide) ?_
      rintro X hX
      have hn : X.n = 35 := hX
      unfold Tryd.f58
      dsimp only
      rw [entryB21]
      repeat' first
       | with_reducible refine Rl.go (by constructor <;> decide) ?_
       | ((with_reducible first | refine hK _ ?_ | refine hK.1 ?_ | refine hK.2 ?_); clear hK K)
       | ((with_reducible refine condS hK (fun hg => ?_) fun hg => ?_) <;> clear hK K <;> (try simp only [hgW] at hg) <;> try (exfalso; omega))
       | with_reducible refine both_mk ?_ ?_
       | ((first | ((with_reducible first | refine Rk.go k58_VsJHead (by constructor) ?_ | refine Rt.go 1 k58_VsJHead b58_1_VsJHead t58_1_VsJHead mixed (by constructor) (by kernel_rfl) ?_); intro K hK) | with_reducible refine Rr.go [] (by constructor) ?_ | (with_reducible refine guardP_split (fun hg => ?_) fun hg => ?_) <;> (try simp only [hg]) <;> (try simp only [hgW] at hg) | (with_reducible refine callE_B3 c32 ?_)) <;> simp -implicitDefEqProofs only [eqOk_true, RJ.cells, h2, hn, go_sem, simprocAttr] <;> try (simp (disch := omega) only [wrW]; try simp -implicitDefEqProofs only [RJ.cells, h2, hn, go_sem, simprocAttr]))
       | with_reducible refine And.intro (by first | omega | (simp only [hgW]; omega)) ?_
       | (exfalso; omega)
  · have h1' : ¬ (x.toNat : Int) = (c.toNat : Int) := fun h => h1 (hxc.2 h)
    rw [if_pos (.inl h1)]
    refine CallsB.intro Tryd.func58 rfl (by show 2 ≤ 35; decide) ?_
    rintro X hX
    have hn : X.n = 35 := hX
    unfold Tryd.f58
    dsimp only
    rw [entryB21]
    repeat' first
     | with_reducible refine Rl.go (by constructor <;> decide) ?_
     | ((with_reducible first | refine hK _ ?_ | refine hK.1 ?_ | refine hK.2 ?_); clear hK K)
     | ((with_reducible refine condS hK (fun hg => ?_) fun hg => ?_) <;> clear hK K <;> (try simp only [hgW] at hg) <;> try (exfalso; omega))
     | with_reducible refine both_mk ?_ ?_
     | ((first | ((with_reducible first | refine Rk.go k58_VsJHead (by constructor) ?_ | refine Rt.go 1 k58_VsJHead b58_1_VsJHead t58_1_VsJHead mixed (by constructor) (by kernel_rfl) ?_); intro K hK) | with_reducible refine Rr.go [] (by constructor) ?_ | (with_reducible refine guardP_split (fun hg => ?_) fun hg => ?_) <;> (try simp only [hg]) <;> (try simp only [hgW] at hg) | (with_reducible refine callE_B3 c32 ?_)) <;> simp -implicitDefEqProofs only [eqOk_true, RJ.cells, h1', hn, go_sem, simprocAttr] <;> try (simp (disch := omega) only [wrW]; try simp -implicitDefEqProofs only [RJ.cells, h1', hn, go_sem, simprocAttr]))
     | with_reducible refine And.intro (by first | omega | (simp only [hgW]; omega)) ?_
     | (exfalso; omega)
end Go.Proofs.YtfemncfhiihckaaDoor
