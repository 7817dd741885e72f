/- What the reader's numbers come to. -/
import Derived.Test.YtfemncfhiihckaaDoorVsJHead
open Go Go.VS
namespace Go.Proofs.YtfemncfhiihckaaDoor
set_option linter.unusedVariables false
set_option linter.unusedSimpArgs false
set_option maxRecDepth 20000
set_option maxHeartbeats 4000000
theorem entryB12 (a : AV) (c d : List AV) : entryB [a] [c, d] = ⟨lk [(0, a)], lkB [(1000000, c), (1000001, d)], hasS [], hasS [], hasN [], lkR []⟩ := entryB_mk _ _ _ _ (slots1 a) (boxes2 c d)
theorem entryB22 (a b : AV) (c d : List AV) : entryB [a, b] [c, d] = ⟨lk [(0, a), (1, b)], lkB [(1000000, c), (1000001, d)], hasS [], hasS [], hasN [], lkR []⟩ := entryB_mk _ _ _ _ (slots2 a b) (boxes2 c d)
/-- Where a byte stands; -1: nowhere. -/
def idxB : List UInt8 → UInt8 → Option Nat
  | [], _ => none
  | x :: l, c => if c = x then some 0 else (idxB l c).map (· + 1)
theorem idxB_iff (l : List UInt8) (c : UInt8) : (idxB l c).isSome = decide (c ∈ l) := by
  induction l with
  | nil => rfl
  | cons x l ih =>
    unfold idxB
    by_cases h : c = x
    · simp [h]
    · rw [if_neg h, Option.isSome_map, ih]
      simp [h]
def idxI (o : Option Nat) : Int := match o with | some n => (n : Int) | none => -1
theorem idxB_drop (l : List UInt8) (c : UInt8) : ∀ i, i ≤ l.length → (∀ j, j < i → l.getD j default ≠ c) → idxB l c = (idxB (l.drop i) c).map (· + i)
  | 0, _, _ => by simp
  | i + 1, hi, h => by
    rw [idxB_drop l c i (by omega) (fun j hj => h j (by omega)), drop_at l i (by omega), idxB, if_neg (fun e => h i (by omega) e.symm), Option.map_map]
    congr 1
    funext x
    simp only [Function.comp]
    omega
def k74_VsJNum : List Nat := [0,1,4,5,7,8,9,16]
attribute [go_sem] k74_VsJNum
theorem f74_ok (l : List UInt8) (nb : Bool) (hl : l.length ≤ 100000) (c : UInt8) : CallsP Tryd.prog 74 [.sl none nb 1 (l.map u8), .int .u8 (c.toNat : Int)] (.int .i64 (idxI (idxB l c))) := by
  obtain ⟨R, hR⟩ : ∃ R, idxI (idxB l c) = R := ⟨_, rfl⟩
  rw [hR]
  refine CallsP.intro Tryd.func74 rfl (by show 2 ≤ 19; decide) ?_
  rintro X hX
  have hn : X.n = 19 := hX
  unfold Tryd.f74
  dsimp only
  rw [entry2]
  repeat' first
   | with_reducible refine Rl.go (by constructor <;> decide) ?_
   | ((with_reducible first | refine hK _ ?_ | refine hK.1 ?_ | refine hK.2 ?_); clear hK K)
   | ((with_reducible refine condS hK (fun hg => ?_) fun hg => ?_) <;> clear hK K <;> (try simp only [hgW] at hg) <;> try (exfalso; omega))
   | ((first | ((with_reducible first | refine Rk.go k74_VsJNum (by constructor) ?_); intro K hK) | with_reducible refine Rr.go [] (by constructor) ?_ | (with_reducible refine guardP_split (fun hg => ?_) fun hg => ?_) <;> (try simp only [hg]) <;> (try simp only [hgW] at hg)) <;> simp -implicitDefEqProofs only [hn, go_sem, simprocAttr] <;> try (simp (disch := omega) only [wrW]; try simp -implicitDefEqProofs only [hn, go_sem, simprocAttr]))
   | with_reducible refine And.intro (by first | omega | (simp only [hgW]; omega)) ?_
   | (exfalso; omega)
  refine AWP.loopX [0, 1, 7, 8] [] (fun i : Nat => St.mk (lk [(0, .sl none nb 1 (l.map u8)), (1, .int .u8 (c.toNat : Int)), (7, .int .i64 (l.length : Int)), (8, .int .i64 (i : Int))]) (lkB []) (hasS []) (hasS []) (hasN []) (lkR []))
    (fun i => i ≤ l.length ∧ ∀ j, j < i → l.getD j default ≠ c) (fun i => l.length - i) 0 ?_ ⟨Nat.zero_le _, fun j hj => absurd hj (by omega)⟩ ?_
  · simp -implicitDefEqProofs only [hn, go_sem, simprocAttr]
    try rfl
  rintro i ⟨hi, hj⟩
  have hd := idxB_drop l c i hi hj
  by_cases hl : i = l.length
  · subst hl
    rw [List.drop_length] at hd
    rw [hd] at hR
    have hR' : R = -1 := by rw [← hR]; rfl
    subst hR'
    repeat' first
     | with_reducible refine Rl.go (by constructor <;> decide) ?_
     | ((with_reducible first | refine hK _ ?_ | refine hK.1 ?_ | refine hK.2 ?_); clear hK K)
     | ((with_reducible refine condS hK (fun hg => ?_) fun hg => ?_) <;> clear hK K <;> (try simp only [hgW] at hg) <;> try (exfalso; omega))
     | ((first | ((with_reducible first | refine Rk.go k74_VsJNum (by constructor) ?_); intro K hK) | with_reducible refine Rr.go [] (by constructor) ?_ | (with_reducible refine guardP_split (fun hg => ?_) fun hg => ?_) <;> (try simp only [hg]) <;> (try simp only [hgW] at hg)) <;> simp -implicitDefEqProofs only [hn, go_sem, simprocAttr] <;> try (simp (disch := omega) only [wrW]; try simp -implicitDefEqProofs only [hn, go_sem, simprocAttr]))
     | with_reducible refine And.intro (by first | omega | (simp only [hgW]; omega)) ?_
     | (exfalso; omega)
    
  · rw [drop_at l i (by omega), idxB] at hd
    obtain ⟨x, hx⟩ : ∃ x, l.getD i default = x := ⟨_, rfl⟩
    rw [hx] at hd
    have e2 : (i : Int) + 1 = ((i + 1 : Nat) : Int) := by omega
    by_cases h : c = x
    · subst h
      rw [if_pos rfl] at hd
      rw [hd] at hR
      have hR' : R = (i : Int) := by rw [← hR]; simp [idxI]
      subst hR'
      repeat' first
       | with_reducible refine Rl.go (by constructor <;> decide) ?_
       | ((with_reducible first | refine hK _ ?_ | refine hK.1 ?_ | refine hK.2 ?_); clear hK K)
       | ((with_reducible refine condS hK (fun hg => ?_) fun hg => ?_) <;> clear hK K <;> (try simp only [hgW] at hg) <;> try (exfalso; omega))
       | ((first | ((with_reducible first | refine Rk.go k74_VsJNum (by constructor) ?_); intro K hK) | with_reducible refine Rr.go [] (by constructor) ?_ | (with_reducible refine guardP_split (fun hg => ?_) fun hg => ?_) <;> (try simp only [hg]) <;> (try simp only [hgW] at hg)) <;> simp -implicitDefEqProofs only [u8, hx, hn, go_sem, simprocAttr] <;> try (simp (disch := omega) only [wrW]; try simp -implicitDefEqProofs only [u8, hx, hn, go_sem, simprocAttr]))
       | with_reducible refine And.intro (by first | omega | (simp only [hgW]; omega)) ?_
       | (exfalso; omega)
      
    · have hn : ¬ (c.toNat : Int) = (x.toNat : Int) := fun hh => h (UInt8.toNat_inj.1 (by omega))
      repeat' first
       | with_reducible refine Rl.go (by constructor <;> decide) ?_
       | ((with_reducible first | refine hK _ ?_ | refine hK.1 ?_ | refine hK.2 ?_); clear hK K)
       | ((with_reducible refine condS hK (fun hg => ?_) fun hg => ?_) <;> clear hK K <;> (try simp only [hgW] at hg) <;> try (exfalso; omega))
       | ((first | ((with_reducible first | refine Rk.go k74_VsJNum (by constructor) ?_); intro K hK) | with_reducible refine Rr.go [] (by constructor) ?_ | (with_reducible refine guardP_split (fun hg => ?_) fun hg => ?_) <;> (try simp only [hg]) <;> (try simp only [hgW] at hg)) <;> simp -implicitDefEqProofs only [u8, hx, hn, hn, go_sem, simprocAttr] <;> try (simp (disch := omega) only [wrW]; try simp -implicitDefEqProofs only [u8, hx, hn, hn, go_sem, simprocAttr]))
       | with_reducible refine And.intro (by first | omega | (simp only [hgW]; omega)) ?_
       | (exfalso; omega)
      refine ⟨i + 1, ?_, ⟨by omega, fun j hj' => ?_⟩, by omega⟩
      · rw [e2]
        simp -implicitDefEqProofs only [hn, go_sem, simprocAttr]
        try rfl
      · by_cases hji : j = i
        · subst hji; rw [hx]; exact fun e => h e.symm
        · exact hj j (by omega)
def k66_VsJNum : List Nat := [0,1,4]
attribute [go_sem] k66_VsJNum
theorem f66_ok (l : List UInt8) (nb : Bool) (hl : l.length ≤ 100000) (c : UInt8) : CallsP Tryd.prog 66 [.sl none nb 1 (l.map u8), .int .u8 (c.toNat : Int)] (.bool (decide (c ∈ l))) := by
  have c74 := f74_ok l nb hl c
  rw [← idxB_iff]
  generalize idxB l c = o at *
  have e : decide ((0 : Int) ≤ idxI o) = o.isSome := by
    cases o with
    | none => rfl
    | some n => simp [idxI]
  refine CallsP.intro Tryd.func66 rfl (by show 2 ≤ 9; decide) ?_
  rintro X hX
  have hn : X.n = 9 := hX
  unfold Tryd.f66
  dsimp only
  rw [entry2]
  repeat' first
   | with_reducible refine Rl.go (by constructor <;> decide) ?_
   | ((with_reducible first | refine hK _ ?_ | refine hK.1 ?_ | refine hK.2 ?_); clear hK K)
   | ((with_reducible refine condS hK (fun hg => ?_) fun hg => ?_) <;> clear hK K <;> (try simp only [hgW] at hg) <;> try (exfalso; omega))
   | ((first | ((with_reducible first | refine Rk.go k66_VsJNum (by constructor) ?_); intro K hK) | with_reducible refine Rr.go [] (by constructor) ?_ | (with_reducible refine guardP_split (fun hg => ?_) fun hg => ?_) <;> (try simp only [hg]) <;> (try simp only [hgW] at hg) | refine Rc.go c74 (by constructor) ?_) <;> simp -implicitDefEqProofs only [e, hn, go_sem, simprocAttr] <;> try (simp (disch := omega) only [wrW]; try simp -implicitDefEqProofs only [e, hn, go_sem, simprocAttr]))
   | with_reducible refine And.intro (by first | omega | (simp only [hgW]; omega)) ?_
   | (exfalso; omega)
  
/-- One of these next? It is taken. -/
def isS (s : RJ) (l : List UInt8) : Bool × RJ :=
  if s.at_ < s.b.length ∧ s.b.getD s.at_ default ∈ l then (true, { s with at_ := s.at_ + 1 }) else (false, s)
def k65_VsJNum : List Nat := [0,1,3,28]
def a65_1_VsJNum : List Nat := [0,1,3,7,0,16,48,112,240,511,1023,2047,4095,2047,10239,26623,59391,2047,133119,395263,919551,2091007,4188159,8388607,16777215]
def o65_1_VsJNum : List Nat := [0,1,2,3,4,5,6,7,8,9,10,11,12,13,14,15,16,17,18,19,20,21,22,23,24]
attribute [go_sem] k65_VsJNum a65_1_VsJNum o65_1_VsJNum
theorem f65_ok (s : RJ) (nb : Bool) (ha : s.b.length ≤ 100000) (hat : s.at_ ≤ s.b.length) (l : List UInt8) (hl : l.length ≤ 10) : CallsB Tryd.prog 65 [.str l, .ptr 1000000 0] [[.ptr 1000001 0], s.cells nb (4, 0)] (.bool (isS s l).1) [[.ptr 1000001 0], (isS s l).2.cells nb (3, 0)] := by
  obtain ⟨b, at_, deep, nodes, err⟩ := s
  unfold isS
  simp only at ha hat ⊢
  have e2 : (at_ : Int) + 1 = ((at_ + 1 : Nat) : Int) := by omega
  by_cases h1 : at_ < b.length
  · obtain ⟨x, hx⟩ : ∃ x, b.getD at_ default = x := ⟨_, rfl⟩
    rw [hx]
    have c66 := f66_ok l false (by omega) x
    by_cases h2 : x ∈ l
    · rw [if_pos ⟨h1, h2⟩]
      rw [decide_eq_true h2] at c66
      refine CallsB.intro Tryd.func65 rfl (by show 2 ≤ 36; decide) ?_
      rintro X hX
      have hn : X.n = 36 := hX
      unfold Tryd.f65
      dsimp only
      rw [entryB22]
      repeat' first
       | with_reducible refine Rl.go (by constructor <;> decide) ?_
       | ((with_reducible first | refine hK _ ?_ | refine hK.1 ?_ | refine hK.2 ?_); clear hK K)
       | ((with_reducible refine condS hK (fun hg => ?_) fun hg => ?_) <;> clear hK K <;> (try simp only [hgW] at hg) <;> try (exfalso; omega))
       | ((first | ((with_reducible first | refine Rk.go k65_VsJNum (by constructor) ?_ | refine Rd.go 1 k65_VsJNum a65_1_VsJNum o65_1_VsJNum mixed (by constructor) (by kernel_rfl) (by kernel_rfl) ?_); intro K hK) | with_reducible refine Rr.go [] (by constructor) ?_ | (with_reducible refine guardP_split (fun hg => ?_) fun hg => ?_) <;> (try simp only [hg]) <;> (try simp only [hgW] at hg) | refine Rc.go c66 (by constructor) ?_) <;> simp -implicitDefEqProofs only [RJ.cells, u8, hx, e2, hn, go_sem, simprocAttr] <;> try (simp (disch := omega) only [wrW]; try simp -implicitDefEqProofs only [RJ.cells, u8, hx, e2, hn, go_sem, simprocAttr]))
       | with_reducible refine And.intro (by first | omega | (simp only [hgW]; omega)) ?_
       | (exfalso; omega)
      
    · rw [if_neg (fun h => h2 h.2)]
      rw [decide_eq_false h2] at c66
      refine CallsB.intro Tryd.func65 rfl (by show 2 ≤ 36; decide) ?_
      rintro X hX
      have hn : X.n = 36 := hX
      unfold Tryd.f65
      dsimp only
      rw [entryB22]
      repeat' first
       | with_reducible refine Rl.go (by constructor <;> decide) ?_
       | ((with_reducible first | refine hK _ ?_ | refine hK.1 ?_ | refine hK.2 ?_); clear hK K)
       | ((with_reducible refine condS hK (fun hg => ?_) fun hg => ?_) <;> clear hK K <;> (try simp only [hgW] at hg) <;> try (exfalso; omega))
       | ((first | ((with_reducible first | refine Rk.go k65_VsJNum (by constructor) ?_ | refine Rd.go 1 k65_VsJNum a65_1_VsJNum o65_1_VsJNum mixed (by constructor) (by kernel_rfl) (by kernel_rfl) ?_); intro K hK) | with_reducible refine Rr.go [] (by constructor) ?_ | (with_reducible refine guardP_split (fun hg => ?_) fun hg => ?_) <;> (try simp only [hg]) <;> (try simp only [hgW] at hg) | refine Rc.go c66 (by constructor) ?_) <;> simp -implicitDefEqProofs only [RJ.cells, u8, hx, e2, hn, go_sem, simprocAttr] <;> try (simp (disch := omega) only [wrW]; try simp -implicitDefEqProofs only [RJ.cells, u8, hx, e2, hn, go_sem, simprocAttr]))
       | with_reducible refine And.intro (by first | omega | (simp only [hgW]; omega)) ?_
       | (exfalso; omega)
      
  · rw [if_neg (fun h => h1 h.1)]
    refine CallsB.intro Tryd.func65 rfl (by show 2 ≤ 36; decide) ?_
    rintro X hX
    have hn : X.n = 36 := hX
    unfold Tryd.f65
    dsimp only
    rw [entryB22]
    repeat' first
     | with_reducible refine Rl.go (by constructor <;> decide) ?_
     | ((with_reducible first | refine hK _ ?_ | refine hK.1 ?_ | refine hK.2 ?_); clear hK K)
     | ((with_reducible refine condS hK (fun hg => ?_) fun hg => ?_) <;> clear hK K <;> (try simp only [hgW] at hg) <;> try (exfalso; omega))
     | ((first | ((with_reducible first | refine Rk.go k65_VsJNum (by constructor) ?_ | refine Rd.go 1 k65_VsJNum a65_1_VsJNum o65_1_VsJNum mixed (by constructor) (by kernel_rfl) (by kernel_rfl) ?_); intro K hK) | with_reducible refine Rr.go [] (by constructor) ?_ | (with_reducible refine guardP_split (fun hg => ?_) fun hg => ?_) <;> (try simp only [hg]) <;> (try simp only [hgW] at hg)) <;> simp -implicitDefEqProofs only [RJ.cells, hn, go_sem, simprocAttr] <;> try (simp (disch := omega) only [wrW]; try simp -implicitDefEqProofs only [RJ.cells, hn, go_sem, simprocAttr]))
     | with_reducible refine And.intro (by first | omega | (simp only [hgW]; omega)) ?_
     | (exfalso; omega)
    
/-- Digits. -/
def digit (c : UInt8) : Bool := decide (48 ≤ c.toNat) && decide (c.toNat ≤ 57)
def digAt (b : List UInt8) (i : Nat) : Nat := i + ((b.drop i).takeWhile digit).length
theorem digAt_end (b : List UInt8) (i : Nat) (h : b.length ≤ i) : digAt b i = i := by
  unfold digAt; rw [List.drop_of_length_le h]; rfl
theorem digAt_step (b : List UInt8) (i : Nat) (h : i < b.length) (hc : digit (b.getD i default) = true) : digAt b i = digAt b (i + 1) := by
  unfold digAt; rw [drop_at b i h, List.takeWhile_cons, if_pos hc]; simp only [List.length_cons]; omega
theorem digAt_stop (b : List UInt8) (i : Nat) (h : i < b.length) (hc : digit (b.getD i default) = false) : digAt b i = i := by
  unfold digAt; rw [drop_at b i h, List.takeWhile_cons, if_neg (by rw [hc]; exact Bool.false_ne_true)]; rfl
theorem digAt_ge (b : List UInt8) (i : Nat) : i ≤ digAt b i := by unfold digAt; omega
theorem digAt_le (b : List UInt8) (i : Nat) (h : i ≤ b.length) : digAt b i ≤ b.length := by
  unfold digAt
  have := (List.takeWhile_sublist (l := b.drop i) digit).length_le
  rw [List.length_drop] at this
  omega
def digS (s : RJ) : Bool × RJ := (decide (s.at_ < digAt s.b s.at_), { s with at_ := digAt s.b s.at_ })
def k64_VsJNum : List Nat := [0,1,2,42]
def a64_2_VsJNum : List Nat := [0,1,3,7,0,16,48,112,240,511,1023,2047,4095,8191,16383,2047,34815,100351,231423,524287,1048575,2097151,4194303,8388607,16777215,33554431,67108863,134217727,16777215,285212671,822083583,1895825407,4294967295,8589934591,17179869183,34359738367]
def o64_2_VsJNum : List Nat := [0,1,2,3,4,5,6,7,8,9,10,11,12,13,14,15,16,17,18,19,20,21,22,23,24,25,26,27,28,29,30,31,32,33,34,35]
attribute [go_sem] k64_VsJNum a64_2_VsJNum o64_2_VsJNum
theorem f64_ok (s : RJ) (nb : Bool) (ha : s.b.length ≤ 100000) (hat : s.at_ ≤ s.b.length) : CallsB Tryd.prog 64 [.ptr 1000000 0] [[.ptr 1000001 0], s.cells nb (4, 0)] (.bool (digS s).1) [[.ptr 1000001 0], (digS s).2.cells nb (3, 0)] := by
  obtain ⟨b, at_, deep, nodes, err⟩ := s
  unfold digS
  simp only at ha hat ⊢
  obtain ⟨R, hR⟩ : ∃ R, digAt b at_ = R := ⟨_, rfl⟩
  rw [hR]
  have hRg := digAt_ge b at_
  refine CallsB.intro Tryd.func64 rfl (by show 1 ≤ 56; decide) ?_
  rintro X hX
  have hn : X.n = 56 := hX
  unfold Tryd.f64
  dsimp only
  rw [entryB12]
  repeat' first
   | with_reducible refine Rl.go (by constructor <;> decide) ?_
   | ((with_reducible first | refine hK _ ?_ | refine hK.1 ?_ | refine hK.2 ?_); clear hK K)
   | ((with_reducible refine condS hK (fun hg => ?_) fun hg => ?_) <;> clear hK K <;> (try simp only [hgW] at hg) <;> try (exfalso; omega))
   | ((first | ((with_reducible first | refine Rk.go k64_VsJNum (by constructor) ?_ | refine Rd.go 2 k64_VsJNum a64_2_VsJNum o64_2_VsJNum mixed (by constructor) (by kernel_rfl) (by kernel_rfl) ?_); intro K hK) | with_reducible refine Rr.go [] (by constructor) ?_ | (with_reducible refine guardP_split (fun hg => ?_) fun hg => ?_) <;> (try simp only [hg]) <;> (try simp only [hgW] at hg)) <;> simp -implicitDefEqProofs only [RJ.cells, hn, go_sem, simprocAttr] <;> try (simp (disch := omega) only [wrW]; try simp -implicitDefEqProofs only [RJ.cells, hn, go_sem, simprocAttr]))
   | with_reducible refine And.intro (by first | omega | (simp only [hgW]; omega)) ?_
   | (exfalso; omega)
  refine AWP.loopX [0, 1, 2] [] (fun i : Nat => St.mk (lk [(0, .ptr 1000000 0), (1, .bool false), (2, .int .i64 (at_ : Int))]) (lkB [(1000000, [.ptr 1000001 0]), (1000001, (RJ.mk b i deep nodes err).cells nb (4, 0))]) (hasS []) (hasS []) (hasN []) (lkR []))
    (fun i => i ≤ b.length ∧ digAt b i = R) (fun i => b.length - i) at_ ?_ ⟨hat, hR⟩ ?_
  · simp -implicitDefEqProofs only [RJ.cells, hn, go_sem, simprocAttr]
    try rfl
  rintro i ⟨hi, hd⟩
  have e2 : (i : Int) + 1 = ((i + 1 : Nat) : Int) := by omega
  by_cases hl : i = b.length
  · subst hl
    rw [digAt_end _ _ (Nat.le_refl _)] at hd
    subst hd
    have er : decide ((at_ : Int) < (b.length : Int)) = decide (at_ < b.length) := by simp
    repeat' first
     | with_reducible refine Rl.go (by constructor <;> decide) ?_
     | ((with_reducible first | refine hK _ ?_ | refine hK.1 ?_ | refine hK.2 ?_); clear hK K)
     | ((with_reducible refine condS hK (fun hg => ?_) fun hg => ?_) <;> clear hK K <;> (try simp only [hgW] at hg) <;> try (exfalso; omega))
     | ((first | ((with_reducible first | refine Rk.go k64_VsJNum (by constructor) ?_ | refine Rd.go 2 k64_VsJNum a64_2_VsJNum o64_2_VsJNum mixed (by constructor) (by kernel_rfl) (by kernel_rfl) ?_); intro K hK) | with_reducible refine Rr.go [] (by constructor) ?_ | (with_reducible refine guardP_split (fun hg => ?_) fun hg => ?_) <;> (try simp only [hg]) <;> (try simp only [hgW] at hg)) <;> simp -implicitDefEqProofs only [RJ.cells, er, hn, go_sem, simprocAttr] <;> try (simp (disch := omega) only [wrW]; try simp -implicitDefEqProofs only [RJ.cells, er, hn, go_sem, simprocAttr]))
     | with_reducible refine And.intro (by first | omega | (simp only [hgW]; omega)) ?_
     | (exfalso; omega)
    
  · obtain ⟨c, hc⟩ : ∃ c, b.getD i default = c := ⟨_, rfl⟩
    have hct := c.toNat_lt
    by_cases hdg : digit c = true
    · rw [digAt_step b i (by omega) (by rw [hc]; exact hdg)] at hd
      simp only [digit, Bool.and_eq_true, decide_eq_true_eq] at hdg
      repeat' first
       | with_reducible refine Rl.go (by constructor <;> decide) ?_
       | ((with_reducible first | refine hK _ ?_ | refine hK.1 ?_ | refine hK.2 ?_); clear hK K)
       | ((with_reducible refine condS hK (fun hg => ?_) fun hg => ?_) <;> clear hK K <;> (try simp only [hgW] at hg) <;> try (exfalso; omega))
       | ((first | ((with_reducible first | refine Rk.go k64_VsJNum (by constructor) ?_ | refine Rd.go 2 k64_VsJNum a64_2_VsJNum o64_2_VsJNum mixed (by constructor) (by kernel_rfl) (by kernel_rfl) ?_); intro K hK) | with_reducible refine Rr.go [] (by constructor) ?_ | (with_reducible refine guardP_split (fun hg => ?_) fun hg => ?_) <;> (try simp only [hg]) <;> (try simp only [hgW] at hg)) <;> simp -implicitDefEqProofs only [RJ.cells, u8, hc, hn, go_sem, simprocAttr] <;> try (simp (disch := omega) only [wrW]; try simp -implicitDefEqProofs only [RJ.cells, u8, hc, hn, go_sem, simprocAttr]))
       | with_reducible refine And.intro (by first | omega | (simp only [hgW]; omega)) ?_
       | (exfalso; omega)
      refine ⟨i + 1, ?_, ⟨by omega, hd⟩, by omega⟩
      rw [e2]
      simp -implicitDefEqProofs only [RJ.cells, hn, go_sem, simprocAttr]
      try rfl
    · rw [digAt_stop b i (by omega) (by rw [hc]; simpa using hdg)] at hd
      subst hd
      have er : decide ((at_ : Int) < (i : Int)) = decide (at_ < i) := by simp
      simp only [digit, Bool.and_eq_true, decide_eq_true_eq] at hdg
      by_cases h48 : 48 ≤ c.toNat
      · skip
        repeat' first
         | with_reducible refine Rl.go (by constructor <;> decide) ?_
         | ((with_reducible first | refine hK _ ?_ | refine hK.1 ?_ | refine hK.2 ?_); clear hK K)
         | ((with_reducible refine condS hK (fun hg => ?_) fun hg => ?_) <;> clear hK K <;> (try simp only [hgW] at hg) <;> try (exfalso; omega))
         | ((first | ((with_reducible first | refine Rk.go k64_VsJNum (by constructor) ?_ | refine Rd.go 2 k64_VsJNum a64_2_VsJNum o64_2_VsJNum mixed (by constructor) (by kernel_rfl) (by kernel_rfl) ?_); intro K hK) | with_reducible refine Rr.go [] (by constructor) ?_ | (with_reducible refine guardP_split (fun hg => ?_) fun hg => ?_) <;> (try simp only [hg]) <;> (try simp only [hgW] at hg)) <;> simp -implicitDefEqProofs only [RJ.cells, u8, hc, er, hn, go_sem, simprocAttr] <;> try (simp (disch := omega) only [wrW]; try simp -implicitDefEqProofs only [RJ.cells, u8, hc, er, hn, go_sem, simprocAttr]))
         | with_reducible refine And.intro (by first | omega | (simp only [hgW]; omega)) ?_
         | (exfalso; omega)
        
      · skip
        repeat' first
         | with_reducible refine Rl.go (by constructor <;> decide) ?_
         | ((with_reducible first | refine hK _ ?_ | refine hK.1 ?_ | refine hK.2 ?_); clear hK K)
         | ((with_reducible refine condS hK (fun hg => ?_) fun hg => ?_) <;> clear hK K <;> (try simp only [hgW] at hg) <;> try (exfalso; omega))
         | ((first | ((with_reducible first | refine Rk.go k64_VsJNum (by constructor) ?_ | refine Rd.go 2 k64_VsJNum a64_2_VsJNum o64_2_VsJNum mixed (by constructor) (by kernel_rfl) (by kernel_rfl) ?_); intro K hK) | with_reducible refine Rr.go [] (by constructor) ?_ | (with_reducible refine guardP_split (fun hg => ?_) fun hg => ?_) <;> (try simp only [hg]) <;> (try simp only [hgW] at hg)) <;> simp -implicitDefEqProofs only [RJ.cells, u8, hc, er, hn, go_sem, simprocAttr] <;> try (simp (disch := omega) only [wrW]; try simp -implicitDefEqProofs only [RJ.cells, u8, hc, er, hn, go_sem, simprocAttr]))
         | with_reducible refine And.intro (by first | omega | (simp only [hgW]; omega)) ?_
         | (exfalso; omega)
        
end Go.Proofs.YtfemncfhiihckaaDoor
