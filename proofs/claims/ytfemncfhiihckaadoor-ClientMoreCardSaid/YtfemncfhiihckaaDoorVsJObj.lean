/- What the reader's objects come to. -/
import Derived.Test.YtfemncfhiihckaaDoorVsJVal
open Go Go.VS
namespace Go.Proofs.YtfemncfhiihckaaDoor
set_option linter.unusedVariables false
set_option linter.unusedSimpArgs false
set_option maxRecDepth 20000
set_option maxHeartbeats 4000000
/-- Where a text stands among some. -/
def idxT : List (List UInt8) → List UInt8 → Option Nat
  | [], _ => none
  | x :: l, c => if c = x then some 0 else (idxT l c).map (· + 1)
theorem idxT_iff (l : List (List UInt8)) (c : List UInt8) : (idxT l c).isSome = decide (c ∈ l) := by
  induction l with
  | nil => rfl
  | cons x l ih =>
    unfold idxT
    by_cases h : c = x
    · simp [h]
    · rw [if_neg h, Option.isSome_map, ih]
      simp [h]
theorem dropT_at (b : List (List UInt8)) (i : Nat) (h : i < b.length) : b.drop i = b.getD i default :: b.drop (i + 1) := by
  rw [List.drop_eq_getElem_cons h, List.getD_eq_getElem?_getD, List.getElem?_eq_getElem h]
  rfl
theorem idxT_drop (l : List (List UInt8)) (c : List UInt8) : ∀ i, i ≤ l.length → (∀ j, j < i → l.getD j default ≠ c) → idxT l c = (idxT (l.drop i) c).map (· + i)
  | 0, _, _ => by simp
  | i + 1, hi, h => by
    rw [idxT_drop l c i (by omega) (fun j hj => h j (by omega)), dropT_at l i (by omega), idxT, if_neg (fun e => h i (by omega) e.symm), Option.map_map]
    congr 1
    funext x
    simp only [Function.comp]
    omega
def k70_VsJObj : List Nat := [0,1,4,5,7,8,9,16]
attribute [go_sem] k70_VsJObj
theorem f70_ok (l : List (List UInt8)) (nb : Bool) (hl : l.length ≤ 100000) (c : List UInt8) : CallsP Tryd.prog 70 [.sl none nb 1 (l.map .str), .str c] (.int .i64 (idxI (idxT l c))) := by
  obtain ⟨R, hR⟩ : ∃ R, idxI (idxT l c) = R := ⟨_, rfl⟩
  rw [hR]
  refine CallsP.intro Tryd.func70 rfl (by show 2 ≤ 19; decide) ?_
  rintro X hX
  have hn : X.n = 19 := hX
  unfold Tryd.f70
  dsimp only
  rw [entry2]
  repeat' first
   | with_reducible refine Rl.go (by constructor <;> decide) ?_
   | ((with_reducible first | refine hK _ ?_ | refine hK.1 ?_ | refine hK.2 ?_); clear hK K)
   | ((with_reducible refine condS hK (fun hg => ?_) fun hg => ?_) <;> clear hK K <;> (try simp only [hgW] at hg) <;> try (exfalso; omega))
   | ((first | ((with_reducible first | refine Rk.go k70_VsJObj (by constructor) ?_); intro K hK) | with_reducible refine Rr.go [] (by constructor) ?_ | (with_reducible refine guardP_split (fun hg => ?_) fun hg => ?_) <;> (try simp only [hg]) <;> (try simp only [hgW] at hg)) <;> simp -implicitDefEqProofs only [hn, go_sem, simprocAttr] <;> try (simp (disch := omega) only [wrW]; try simp -implicitDefEqProofs only [hn, go_sem, simprocAttr]))
   | with_reducible refine And.intro (by first | omega | (simp only [hgW]; omega)) ?_
   | (exfalso; omega)
  refine AWP.loopX [0, 1, 7, 8] [] (fun i : Nat => St.mk (lk [(0, .sl none nb 1 (l.map .str)), (1, .str c), (7, .int .i64 (l.length : Int)), (8, .int .i64 (i : Int))]) (lkB []) (hasS []) (hasS []) (hasN []) (lkR []))
    (fun i => i ≤ l.length ∧ ∀ j, j < i → l.getD j default ≠ c) (fun i => l.length - i) 0 ?_ ⟨Nat.zero_le _, fun j hj => absurd hj (by omega)⟩ ?_
  · simp -implicitDefEqProofs only [hn, go_sem, simprocAttr]
    try rfl
  rintro i ⟨hi, hj⟩
  have hd := idxT_drop l c i hi hj
  by_cases hl : i = l.length
  · subst hl
    rw [List.drop_length] at hd
    rw [hd] at hR
    have hR' : R = -1 := by rw [← hR]; rfl
    subst hR'
    repeat' first
     | with_reducible refine Rl.go (by constructor <;> decide) ?_
     | ((with_reducible first | refine hK _ ?_ | refine hK.1 ?_ | refine hK.2 ?_); clear hK K)
     | ((with_reducible refine condS hK (fun hg => ?_) fun hg => ?_) <;> clear hK K <;> (try simp only [hgW] at hg) <;> try (exfalso; omega))
     | ((first | ((with_reducible first | refine Rk.go k70_VsJObj (by constructor) ?_); intro K hK) | with_reducible refine Rr.go [] (by constructor) ?_ | (with_reducible refine guardP_split (fun hg => ?_) fun hg => ?_) <;> (try simp only [hg]) <;> (try simp only [hgW] at hg)) <;> simp -implicitDefEqProofs only [hn, go_sem, simprocAttr] <;> try (simp (disch := omega) only [wrW]; try simp -implicitDefEqProofs only [hn, go_sem, simprocAttr]))
     | with_reducible refine And.intro (by first | omega | (simp only [hgW]; omega)) ?_
     | (exfalso; omega)
  · rw [dropT_at l i (by omega), idxT] at hd
    obtain ⟨x, hx⟩ : ∃ x, l.getD i default = x := ⟨_, rfl⟩
    rw [hx] at hd
    have e2 : (i : Int) + 1 = ((i + 1 : Nat) : Int) := by omega
    by_cases h : c = x
    · subst h
      rw [if_pos rfl] at hd
      rw [hd] at hR
      have hR' : R = (i : Int) := by rw [← hR]; simp [idxI]
      subst hR'
      repeat' first
       | with_reducible refine Rl.go (by constructor <;> decide) ?_
       | ((with_reducible first | refine hK _ ?_ | refine hK.1 ?_ | refine hK.2 ?_); clear hK K)
       | ((with_reducible refine condS hK (fun hg => ?_) fun hg => ?_) <;> clear hK K <;> (try simp only [hgW] at hg) <;> try (exfalso; omega))
       | ((first | ((with_reducible first | refine Rk.go k70_VsJObj (by constructor) ?_); intro K hK) | with_reducible refine Rr.go [] (by constructor) ?_ | (with_reducible refine guardP_split (fun hg => ?_) fun hg => ?_) <;> (try simp only [hg]) <;> (try simp only [hgW] at hg)) <;> simp -implicitDefEqProofs only [hx, hn, go_sem, simprocAttr] <;> try (simp (disch := omega) only [wrW]; try simp -implicitDefEqProofs only [hx, hn, go_sem, simprocAttr]))
       | with_reducible refine And.intro (by first | omega | (simp only [hgW]; omega)) ?_
       | (exfalso; omega)
    · have hn : (c == x) = false := by simpa using h
      repeat' first
       | with_reducible refine Rl.go (by constructor <;> decide) ?_
       | ((with_reducible first | refine hK _ ?_ | refine hK.1 ?_ | refine hK.2 ?_); clear hK K)
       | ((with_reducible refine condS hK (fun hg => ?_) fun hg => ?_) <;> clear hK K <;> (try simp only [hgW] at hg) <;> try (exfalso; omega))
       | ((first | ((with_reducible first | refine Rk.go k70_VsJObj (by constructor) ?_); intro K hK) | with_reducible refine Rr.go [] (by constructor) ?_ | (with_reducible refine guardP_split (fun hg => ?_) fun hg => ?_) <;> (try simp only [hg]) <;> (try simp only [hgW] at hg)) <;> simp -implicitDefEqProofs only [hx, hn, hn, go_sem, simprocAttr] <;> try (simp (disch := omega) only [wrW]; try simp -implicitDefEqProofs only [hx, hn, hn, go_sem, simprocAttr]))
       | with_reducible refine And.intro (by first | omega | (simp only [hgW]; omega)) ?_
       | (exfalso; omega)
      refine ⟨i + 1, ?_, ⟨by omega, fun j hj' => ?_⟩, by omega⟩
      · rw [e2]
        simp -implicitDefEqProofs only [hn, go_sem, simprocAttr]
        try rfl
      · by_cases hji : j = i
        · subst hji; rw [hx]; exact fun e => h e.symm
        · exact hj j (by omega)
def k59_VsJObj : List Nat := [0,1,4]
attribute [go_sem] k59_VsJObj
theorem f59_ok (l : List (List UInt8)) (nb : Bool) (hl : l.length ≤ 100000) (c : List UInt8) : CallsP Tryd.prog 59 [.sl none nb 1 (l.map .str), .str c] (.bool (decide (c ∈ l))) := by
  have c70 := f70_ok l nb hl c
  rw [← idxT_iff]
  generalize idxT l c = o at *
  have e : decide ((0 : Int) ≤ idxI o) = o.isSome := by
    cases o with
    | none => rfl
    | some n => simp [idxI]
  refine CallsP.intro Tryd.func59 rfl (by show 2 ≤ 9; decide) ?_
  rintro X hX
  have hn : X.n = 9 := hX
  unfold Tryd.f59
  dsimp only
  rw [entry2]
  repeat' first
   | with_reducible refine Rl.go (by constructor <;> decide) ?_
   | ((with_reducible first | refine hK _ ?_ | refine hK.1 ?_ | refine hK.2 ?_); clear hK K)
   | ((with_reducible refine condS hK (fun hg => ?_) fun hg => ?_) <;> clear hK K <;> (try simp only [hgW] at hg) <;> try (exfalso; omega))
   | ((first | ((with_reducible first | refine Rk.go k59_VsJObj (by constructor) ?_); intro K hK) | with_reducible refine Rr.go [] (by constructor) ?_ | (with_reducible refine guardP_split (fun hg => ?_) fun hg => ?_) <;> (try simp only [hg]) <;> (try simp only [hgW] at hg) | refine Rc.go c70 (by constructor) ?_) <;> simp -implicitDefEqProofs only [e, hn, go_sem, simprocAttr] <;> try (simp (disch := omega) only [wrW]; try simp -implicitDefEqProofs only [e, hn, go_sem, simprocAttr]))
   | with_reducible refine And.intro (by first | omega | (simp only [hgW]; omega)) ?_
   | (exfalso; omega)
theorem hereS_at (s : RJ) (he : s.err = 0) (c : UInt8) (hc : (hereS s).1 = c) (h0 : c ≠ 0) : (hereS s).2.at_ < s.b.length ∧ s.b.getD (hereS s).2.at_ default = c := by
  unfold hereS at hc ⊢
  rw [if_neg (by simpa using he)] at hc ⊢
  split
  · rename_i h
    rw [if_pos h] at hc
    exact ⟨h, hc⟩
  · rename_i h
    rw [if_neg h] at hc
    exact (h0 hc.symm).elim
/-- Members, one behind the other. -/
def objS (val : RJ → Nat × RJ) : Nat → RJ → List (List UInt8) → List Nat → (List (List UInt8) × List Nat) × RJ
  | 0, s, ns, ks => ((ns, ks), s)
  | n + 1, s, ns, ks =>
    if s.err ≠ 0 then ((ns, ks), s)
    else if (hereS s).1 ≠ 34 then ((ns, ks), (hereS s).2.fail 11)
    else
      let t := textS (hereS s).2
      let s1 := if t.1 ∈ ns then t.2.fail 12 else t.2
      let c := signS s1 58
      let s2 := if c.1 = true then c.2 else c.2.fail 11
      let v := val s2
      let e := signS v.2 125
      if e.1 = true then ((ns ++ [t.1], ks ++ [v.1]), e.2)
      else
        let f := signS e.2 44
        objS val n (if f.1 = true then f.2 else f.2.fail 11) (ns ++ [t.1]) (ks ++ [v.1])
def objectS (val : RJ → Nat × RJ) (s : RJ) : JN × RJ :=
  if (signS (openS s) 125).1 = true then (⟨1, [], [], []⟩, shutS (signS (openS s) 125).2)
  else (⟨1, [], (objS val 300 (signS (openS s) 125).2 [] []).1.1, (objS val 300 (signS (openS s) 125).2 [] []).1.2⟩, shutS (objS val 300 (signS (openS s) 125).2 [] []).2)
theorem txC_le (b : List UInt8) : ∀ (n i : Nat) (out : List UInt8), i ≤ b.length → (txC b n i out).2.2 ≤ b.length ∧ i ≤ (txC b n i out).2.2
  | 0, i, out, h => ⟨h, Nat.le_refl _⟩
  | n + 1, i, out, h => by
    unfold txC
    split
    · exact ⟨h, Nat.le_refl _⟩
    rename_i h1
    split
    · simp only; omega
    split
    · exact ⟨h, Nat.le_refl _⟩
    split
    · have hp := escR_pos b i (by omega)
      split
      · have := txC_le b n _ (out ++ encB (escR b i).1.toNat) hp.2; omega
      · exact ⟨hp.2, hp.1⟩
    split
    · exact ⟨h, Nat.le_refl _⟩
    · have hne : b.drop i ≠ [] := fun h => by have := congrArg List.length h; rw [List.length_drop] at this; simp only [List.length_nil] at this; omega
      have hd := decL_pos _ hne
      rw [List.length_drop] at hd
      have := txC_le b n (i + (Go.Lib.decodeL (b.drop i)).2) (out ++ (b.drop i).take (Go.Lib.decodeL (b.drop i)).2) (by omega)
      omega
theorem textS_b (s : RJ) : (textS s).2.b = s.b ∧ (textS s).2.deep = s.deep ∧ (textS s).2.nodes = s.nodes := by
  unfold textS
  simp only
  split
  · exact ⟨rfl, rfl, rfl⟩
  · obtain ⟨q1, q2, q3, _⟩ := fail_b { s with at_ := (txC s.b (s.b.length + 1) (s.at_ + 1) []).2.2 } 11
    exact ⟨q1, q2, q3⟩
theorem textS_ok (s : RJ) (h : OkJ s) (hat : s.at_ < s.b.length) : OkJ (textS s).2 := by
  obtain ⟨q1, q2, q3⟩ := textS_b s
  refine ⟨?_, by rw [q1]; exact h.len, by rw [q3]; exact h.nod⟩
  rw [q1]
  have ht := (txC_le s.b (s.b.length + 1) (s.at_ + 1) [] (by omega)).1
  unfold textS
  simp only
  split
  · exact ht
  · rw [(fail_b { s with at_ := (txC s.b (s.b.length + 1) (s.at_ + 1) []).2.2 } 11).2.2.2.1]
    exact ht
structure ObjI (val : RJ → Nat × RJ) (D : Nat) (b : List UInt8) (R : (List (List UInt8) × List Nat) × RJ) (x : Nat × RJ × List (List UInt8) × List Nat) : Prop where
  deep : x.2.1.deep = D
  eb : x.2.1.b = b
  ok : OkJ x.2.1
  dp : x.2.1.err = 0 → D ≤ 8
  fu : x.2.1.err = 0 → 256 < x.1 + x.2.1.nodes.length
  kl : x.2.2.2.length + x.1 ≤ 300
  nl : x.2.2.1.length + x.1 ≤ 300
  eq : objS val x.1 x.2.1 x.2.2.1 x.2.2.2 = R
def k42_VsJObj : List Nat := [0,1,2,3,4,5,11,17,20,28,33,51,54,58]
def p42_15_VsJObj : List Nat := []
def a42_15_VsJObj : List Nat := [0,1,0,4,15,0,32,0,128,511,127,2047,4095,8191]
def o42_15_VsJObj : List (List Nat) := [[2,3,0,1,4,7,8,5,6,9,10,11,12,13],[2,3,7,8,0,1,4,5,6,9,10,11,12,13],[7,8,2,3,0,1,4,5,6,9,10,11,12,13]]
attribute [go_sem] k42_VsJObj p42_15_VsJObj a42_15_VsJObj o42_15_VsJObj
theorem f42_ok {val : RJ → Nat × RJ} (K : KeepV val) (s : RJ) (nb : Bool) (hit : s.deep + 1 ≤ 8 → ValOk val (s.deep + 1)) (hok : OkJ s) (hat : s.at_ < s.b.length) (hdp : s.deep ≤ 8) :
    CallsB Tryd.prog 42 [.ptr 1000000 0] [s.cells nb (4, 0)] (objectS val s).1.av [(objectS val s).2.cells nb (3, 0)] := by
  have c56 : CallsB Tryd.prog 56 [.ptr 1000000 0] [s.cells nb (4, 0)] (.tup []) [(openS s).cells nb (3, 0)] := f56_ok s nb (by omega) (by have := hok.len; have := hok.at_; omega)
  obtain ⟨p1, p2, p3, p4, p5⟩ := openS_b s
  obtain ⟨R, hR⟩ : ∃ R, objectS val s = R := ⟨_, rfl⟩
  rw [hR]
  unfold objectS at hR
  have hOk : OkJ (openS s) := ⟨by rw [p4, p1]; omega, by rw [p1]; exact hok.len, by rw [p3]; exact hok.nod⟩
  generalize openS s = O at *
  have c58 := f58_ok O nb (by have := hOk.len; omega) (by have := hOk.len; have := hOk.at_; omega) 125
  have hSk := signS_ok O 125 hOk
  obtain ⟨r1, r2, r3, r4⟩ := signS_b O 125
  generalize signS O 125 = S at *
  obtain ⟨sb, T⟩ := S
  simp only at c58 hSk r1 r2 r3 r4 hR
  obtain ⟨b, at_, deep, nodes, err⟩ := s
  obtain ⟨Ob, Oa, Od, On, Oe⟩ := O
  simp only at *
  subst p1 p2 p3 p4
  cases sb with
  | true =>
    rw [if_pos rfl] at hR
    subst hR
    have c57 := f57_ok T nb (by omega) (by omega)
    obtain ⟨Tb, Ta, Td, Tn, Te⟩ := T
    refine CallsB.introD Tryd.func42 rfl (by show 1 ≤ 58; decide) ?_
    rintro X hX
    have hn : X.n = 58 := hX
    unfold Tryd.f42
    dsimp only
    rw [entryD11]
    repeat' first
     | with_reducible refine Rl.go (by constructor <;> decide) ?_
     | ((with_reducible first | refine hK _ ?_ | refine hK.1 ?_ | refine hK.2 ?_); clear hK K)
     | ((with_reducible refine condS hK (fun hg => ?_) fun hg => ?_) <;> clear hK K <;> (try simp only [hgW] at hg) <;> try (exfalso; omega))
     | ((with_reducible refine retSD_mk c57 ?_); simp -implicitDefEqProofs only [eqOk_true, RJ.cells, JN.av, Array.size_empty, ck57, ck60, hn, go_sem, simprocAttr]; (skip; try (simp (disch := omega) only [wrW]; try simp -implicitDefEqProofs only [RJ.cells, JN.av, Array.size_empty, ck57, ck60, hn, go_sem, simprocAttr])); fail_if_success (with_reducible refine eqOk_mk ?_))
     | ((first | ((with_reducible first | refine Rk.go k42_VsJObj (by constructor) ?_ | refine Rm.go 15 k42_VsJObj p42_15_VsJObj a42_15_VsJObj o42_15_VsJObj mixed (by constructor) (by kernel_rfl) (by kernel_rfl) (by with_unfolding_all rfl) ?_); intro K hK) | with_reducible refine Rr.go [] (by constructor) ?_ | (with_reducible refine guardP_split (fun hg => ?_) fun hg => ?_) <;> (try simp only [hg]) <;> (try simp only [hgW] at hg) | (with_reducible refine callE_B4 c56 ?_) | (with_reducible refine callE_B4 c58 ?_)) <;> simp -implicitDefEqProofs only [eqOk_true, RJ.cells, JN.av, Array.size_empty, ck57, ck60, hn, go_sem, simprocAttr] <;> try (simp (disch := omega) only [wrW]; try simp -implicitDefEqProofs only [RJ.cells, JN.av, Array.size_empty, ck57, ck60, hn, go_sem, simprocAttr]))
     | with_reducible refine And.intro (by first | omega | (simp only [hgW]; omega)) ?_
     | (exfalso; omega)
  | false =>
    rw [if_neg (by decide)] at hR
    obtain ⟨A, hA⟩ : ∃ A, objS val 300 T [] [] = A := ⟨_, rfl⟩
    rw [hA] at hR
    obtain ⟨Tb, Ta, Td, Tn, Te⟩ := T
    simp only at *
    subst r1 r2 r3 r4
    refine CallsB.introD Tryd.func42 rfl (by show 1 ≤ 58; decide) ?_
    rintro X hX
    have hn : X.n = 58 := hX
    unfold Tryd.f42
    dsimp only
    rw [entryD11]
    repeat' first
     | with_reducible refine Rl.go (by constructor <;> decide) ?_
     | ((with_reducible first | refine hK _ ?_ | refine hK.1 ?_ | refine hK.2 ?_); clear hK K)
     | ((with_reducible refine condS hK (fun hg => ?_) fun hg => ?_) <;> clear hK K <;> (try simp only [hgW] at hg) <;> try (exfalso; omega))
     | ((first | ((with_reducible first | refine Rk.go k42_VsJObj (by constructor) ?_ | refine Rm.go 15 k42_VsJObj p42_15_VsJObj a42_15_VsJObj o42_15_VsJObj mixed (by constructor) (by kernel_rfl) (by kernel_rfl) (by with_unfolding_all rfl) ?_); intro K hK) | with_reducible refine Rr.go [] (by constructor) ?_ | (with_reducible refine guardP_split (fun hg => ?_) fun hg => ?_) <;> (try simp only [hg]) <;> (try simp only [hgW] at hg) | (with_reducible refine callE_B4 c56 ?_) | (with_reducible refine callE_B4 c58 ?_)) <;> simp -implicitDefEqProofs only [eqOk_true, RJ.cells, JN.av, Array.size_empty, ck57, ck60, hn, go_sem, simprocAttr] <;> try (simp (disch := omega) only [wrW]; try simp -implicitDefEqProofs only [RJ.cells, JN.av, Array.size_empty, ck57, ck60, hn, go_sem, simprocAttr]))
     | with_reducible refine And.intro (by first | omega | (simp only [hgW]; omega)) ?_
     | (exfalso; omega)
    refine AWP.adoptB 3 2 (0, 998) 0 1 (by rfl) (by rfl) ?_
    refine AWP.adoptB 3 3 (0, 999) 0 1 (by rfl) (by rfl) ?_
    refine AWP.loopX [1, 2, 3, 58] [] (fun x : Nat × RJ × List (List UInt8) × List Nat => St.mk (lk [(1, .ptr 1 0), (2, .ptr 2 0), (3, .ptr 3 0), (58, .hid (.fn 57 [.ptr 1 0]))])
        (lkB [(1000000, x.2.1.cells nb (4, 0)), (1, [.ptr 1000000 0]), (2, [.int .u8 0, .str [], .sl none true 1 [], .sl none true 1 []]), (3, [.int .u8 1, .str [], .sl (some ((0, 998), 0)) x.2.2.1.isEmpty 1 (x.2.2.1.map .str), .sl (some ((0, 999), 0)) x.2.2.2.isEmpty 1 (x.2.2.2.map i64n)])]) (hasS []) (hasS []) (hasN []) (lkR []))
      (ObjI val (deep + 1) Tb A) (fun x => x.1) (300, ⟨Tb, Ta, deep + 1, Tn, Te⟩, [], []) ?_ ⟨rfl, rfl, hSk, fun h => Nat.le_of_not_lt fun h' => p5 h' h, fun _ => by simp only; omega, by simp, by simp, hA⟩ ?_
    · simp -implicitDefEqProofs only [RJ.cells, Array.size_empty, ck57, ck60, hn, go_sem, simprocAttr]
      try rfl
    rintro ⟨n, s2, ns, ks⟩ ⟨x1, x2, x3, x4, x5, x6, x6', x7⟩
    simp only at x1 x2 x3 x4 x5 x6 x6' x7
    subst x2
    by_cases he : s2.err = 0
    · have x5' := x5 he
      have x4' := x4 he
      have hnl := x3.nod
      obtain ⟨n, rfl⟩ : ∃ m, n = m + 1 := ⟨n - 1, by omega⟩
      unfold objS at x7
      rw [if_neg (by simpa using he)] at x7
      have c32 := f32_ok s2 nb (by have := x3.len; omega)
      have hH := hereS_ok s2 x3
      obtain ⟨h1, h2, h3, h4⟩ := hereS_b s2
      have hHat := hereS_at s2 he 34
      generalize hereS s2 = H at *
      obtain ⟨hc, H2⟩ := H
      simp only at c32 hH h1 h2 h3 h4 hHat x7
      by_cases h34 : hc ≠ 34
      · rw [if_pos h34] at x7
        have hn : ¬ (hc.toNat : Int) = 34 := fun h => h34 (UInt8.toNat_inj.1 (by simp; omega))
        have c33 := f33_ok H2 nb 11
        obtain ⟨w1, w2, w3, w4, w5⟩ := fail_b H2 11
        generalize H2.fail 11 = F at *
        have c57 := f57_ok F nb (by omega) (by omega)
        subst x7
        subst hR
        obtain ⟨b2, at2, deep2, nodes2, err2⟩ := s2
        obtain ⟨Hb, Ha, Hd, Hn, He⟩ := H2
        obtain ⟨Fb, Fa, Fd, Fn, Fe⟩ := F
        simp only at *
        subst he
        repeat' first
         | with_reducible refine Rl.go (by constructor <;> decide) ?_
         | ((with_reducible first | refine hK _ ?_ | refine hK.1 ?_ | refine hK.2 ?_); clear hK K)
         | ((with_reducible refine condS hK (fun hg => ?_) fun hg => ?_) <;> clear hK K <;> (try simp only [hgW] at hg) <;> try (exfalso; omega))
         | ((with_reducible refine retSD_mk c57 ?_); simp -implicitDefEqProofs only [eqOk_true, RJ.cells, JN.av, hn, Array.size_empty, ck57, ck60, hn, go_sem, simprocAttr]; (skip; try (simp (disch := omega) only [wrW]; try simp -implicitDefEqProofs only [RJ.cells, JN.av, hn, Array.size_empty, ck57, ck60, hn, go_sem, simprocAttr])); fail_if_success (with_reducible refine eqOk_mk ?_))
         | ((first | ((with_reducible first | refine Rk.go k42_VsJObj (by constructor) ?_ | refine Rm.go 15 k42_VsJObj p42_15_VsJObj a42_15_VsJObj o42_15_VsJObj mixed (by constructor) (by kernel_rfl) (by kernel_rfl) (by with_unfolding_all rfl) ?_); intro K hK) | with_reducible refine Rr.go [] (by constructor) ?_ | (with_reducible refine guardP_split (fun hg => ?_) fun hg => ?_) <;> (try simp only [hg]) <;> (try simp only [hgW] at hg) | (with_reducible refine callE_B4 c32 ?_) | (with_reducible refine callE_B4 c33 ?_)) <;> simp -implicitDefEqProofs only [eqOk_true, RJ.cells, JN.av, hn, Array.size_empty, ck57, ck60, hn, go_sem, simprocAttr] <;> try (simp (disch := omega) only [wrW]; try simp -implicitDefEqProofs only [RJ.cells, JN.av, hn, Array.size_empty, ck57, ck60, hn, go_sem, simprocAttr]))
         | with_reducible refine And.intro (by first | omega | (simp only [hgW]; omega)) ?_
         | (exfalso; omega)
      have h34 : hc = 34 := Classical.not_not.1 h34
      rw [if_neg (by simpa using h34)] at x7
      have hcn : (hc.toNat : Int) = 34 := by rw [h34]; rfl
      obtain ⟨g1, g2⟩ := hHat h34 (by decide)
      have c44 := f44_ok H2 nb (by rw [h1]; exact x3.len) (by rw [h1]; exact g1)
      have hT := textS_ok H2 hH (by rw [h1]; exact g1)
      obtain ⟨t1, t2, t3⟩ := textS_b H2
      generalize textS H2 = TX at *
      obtain ⟨txt, T2⟩ := TX
      simp only at c44 hT t1 t2 t3 x7
      have c59 := f59_ok ns ns.isEmpty (by omega) txt
      have c33a := f33_ok T2 nb 12
      obtain ⟨S1, hS1⟩ : ∃ S1, (if txt ∈ ns then T2.fail 12 else T2) = S1 := ⟨_, rfl⟩
      rw [hS1] at x7
      have hS1k : OkJ S1 ∧ S1.b = T2.b ∧ S1.deep = T2.deep ∧ S1.nodes = T2.nodes := by
        rw [← hS1]
        split
        · obtain ⟨w1, w2, w3, w4, w5⟩ := fail_b T2 12
          exact ⟨fail_ok T2 12 hT, w1, w2, w3⟩
        · exact ⟨hT, rfl, rfl, rfl⟩
      have c58c := f58_ok S1 nb (by have := hS1k.1.len; omega) (by have := hS1k.1.len; have := hS1k.1.at_; omega) 58
      have hC := signS_ok S1 58 hS1k.1
      obtain ⟨q1, q2, q3, q4⟩ := signS_b S1 58
      generalize signS S1 58 = CC at *
      obtain ⟨cb, C2⟩ := CC
      simp only at c58c hC q1 q2 q3 q4 x7
      have c33c := f33_ok C2 nb 11
      obtain ⟨S2, hS2⟩ : ∃ S2, (if cb = true then C2 else C2.fail 11) = S2 := ⟨_, rfl⟩
      rw [hS2] at x7
      have hS2k : OkJ S2 ∧ S2.b = C2.b ∧ S2.deep = C2.deep ∧ S2.nodes = C2.nodes := by
        rw [← hS2]
        split
        · exact ⟨hC, rfl, rfl, rfl⟩
        · obtain ⟨w1, w2, w3, w4, w5⟩ := fail_b C2 11
          exact ⟨fail_ok C2 11 hC, w1, w2, w3⟩
      have hS2b : S2.b = s2.b := by rw [hS2k.2.1, q1, hS1k.2.1, t1, h1]
      have hS2d : S2.deep = deep + 1 := by rw [hS2k.2.2.1, q2, hS1k.2.2.1, t2, h2, x1]
      have hS2n : S2.nodes = s2.nodes := by rw [hS2k.2.2.2, q3, hS1k.2.2.2, t3, h3]
      have cV := hit x4' S2 nb hS2d hS2k.1
      have kb := K.b _ hS2k.1
      have kd := K.deep _ hS2k.1
      have ko := K.ok _ hS2k.1
      have km := K.more _ hS2k.1
      rw [hS2b] at kb
      rw [hS2d] at kd
      rw [hS2n] at km
      generalize val S2 = V at *
      obtain ⟨v, V2⟩ := V
      simp only at kb kd ko km cV x7
      have c58a := f58_ok V2 nb (by have := ko.len; omega) (by have := ko.len; have := ko.at_; omega) 125
      have hE := signS_ok V2 125 ko
      obtain ⟨u1, u2, u3, u4⟩ := signS_b V2 125
      generalize signS V2 125 = E1 at *
      obtain ⟨eb, E2⟩ := E1
      simp only at c58a hE u1 u2 u3 u4 x7
      have e1 : ks.map i64n ++ [AV.int .i64 (v : Int)] = (ks ++ [v]).map i64n := by rw [List.map_append]; rfl
      have e3 : (ks ++ [v]).isEmpty = false := by simp
      have e2 : ns.map AV.str ++ [AV.str txt] = (ns ++ [txt]).map AV.str := by rw [List.map_append]; rfl
      have e4 : (ns ++ [txt]).isEmpty = false := by simp
      obtain ⟨b2, at2, deep2, nodes2, err2⟩ := s2
      simp only at he
      subst he
      repeat' first
       | (with_reducible refine markD 10 ?_)
       | with_reducible refine Rl.go (by constructor <;> decide) ?_
       | ((with_reducible first | refine hK _ ?_ | refine hK.1 ?_ | refine hK.2 ?_); clear hK K)
       | ((with_reducible refine condS hK (fun hg => ?_) fun hg => ?_) <;> clear hK K <;> (try simp only [hgW] at hg) <;> try (exfalso; omega))
       | ((first | ((with_reducible first | refine Rk.go k42_VsJObj (by constructor) ?_ | refine Rm.go 15 k42_VsJObj p42_15_VsJObj a42_15_VsJObj o42_15_VsJObj mixed (by constructor) (by kernel_rfl) (by kernel_rfl) (by with_unfolding_all rfl) ?_); intro K hK) | with_reducible refine Rr.go [] (by constructor) ?_ | (with_reducible refine guardP_split (fun hg => ?_) fun hg => ?_) <;> (try simp only [hg]) <;> (try simp only [hgW] at hg) | (with_reducible refine callE_B4 c32 ?_) | (with_reducible refine callE_B4 c44 ?_)) <;> simp -implicitDefEqProofs only [eqOk_true, RJ.cells, hcn, Array.size_empty, ck57, ck60, hn, go_sem, simprocAttr] <;> try (simp (disch := omega) only [wrW]; try simp -implicitDefEqProofs only [RJ.cells, hcn, Array.size_empty, ck57, ck60, hn, go_sem, simprocAttr]))
       | with_reducible refine And.intro (by first | omega | (simp only [hgW]; omega)) ?_
       | (exfalso; omega)
      unfold MarkD
      refine AWP.join [1, 2, 3, 4, 58] [] (St.mk (lk [(1, .ptr 1 0), (2, .ptr 2 0), (3, .ptr 3 0), (4, .str txt), (58, .hid (.fn 57 [.ptr 1 0]))]) (lkB [(1000000, S1.cells nb (4, 0)), (1, [.ptr 1000000 0]), (2, [.int .u8 0, .str [], .sl none true 1 [], .sl none true 1 []]), (3, [.int .u8 1, .str [], .sl (some ((0, 998), 0)) ns.isEmpty 1 (ns.map .str), .sl (some ((0, 999), 0)) ks.isEmpty 1 (ks.map i64n)])]) (hasS []) (hasS []) (hasN []) (lkR [])) ?_ ?_
      · by_cases hm : txt ∈ ns
        · rw [if_pos hm] at hS1
          rw [decide_eq_true hm] at c59
          rw [hS1] at c33a
          clear hS1
          obtain ⟨T2b, T2a, T2d, T2n, T2e⟩ := T2
          obtain ⟨S1b, S1a, S1d, S1n, S1e⟩ := S1
          repeat' first
           | with_reducible refine Rl.go (by constructor <;> decide) ?_
           | ((with_reducible first | refine hK _ ?_ | refine hK.1 ?_ | refine hK.2 ?_); clear hK K)
           | ((with_reducible refine condS hK (fun hg => ?_) fun hg => ?_) <;> clear hK K <;> (try simp only [hgW] at hg) <;> try (exfalso; omega))
           | ((first | ((with_reducible first | refine Rk.go k42_VsJObj (by constructor) ?_ | refine Rm.go 15 k42_VsJObj p42_15_VsJObj a42_15_VsJObj o42_15_VsJObj mixed (by constructor) (by kernel_rfl) (by kernel_rfl) (by with_unfolding_all rfl) ?_); intro K hK) | with_reducible refine Rr.go [] (by constructor) ?_ | (with_reducible refine guardP_split (fun hg => ?_) fun hg => ?_) <;> (try simp only [hg]) <;> (try simp only [hgW] at hg) | refine Rc.go c59 (by constructor) ?_ | (with_reducible refine callE_B4 c33a ?_)) <;> simp -implicitDefEqProofs only [eqOk_true, RJ.cells, Array.size_empty, ck57, ck60, hn, go_sem, simprocAttr] <;> try (simp (disch := omega) only [wrW]; try simp -implicitDefEqProofs only [RJ.cells, Array.size_empty, ck57, ck60, hn, go_sem, simprocAttr]))
           | with_reducible refine And.intro (by first | omega | (simp only [hgW]; omega)) ?_
           | (exfalso; omega)
          simp -implicitDefEqProofs only [RJ.cells, Array.size_empty, ck57, ck60, hn, go_sem, simprocAttr]
          try rfl
        · rw [if_neg hm] at hS1
          rw [decide_eq_false hm] at c59
          subst hS1
          obtain ⟨T2b, T2a, T2d, T2n, T2e⟩ := T2
          repeat' first
           | with_reducible refine Rl.go (by constructor <;> decide) ?_
           | ((with_reducible first | refine hK _ ?_ | refine hK.1 ?_ | refine hK.2 ?_); clear hK K)
           | ((with_reducible refine condS hK (fun hg => ?_) fun hg => ?_) <;> clear hK K <;> (try simp only [hgW] at hg) <;> try (exfalso; omega))
           | ((first | ((with_reducible first | refine Rk.go k42_VsJObj (by constructor) ?_ | refine Rm.go 15 k42_VsJObj p42_15_VsJObj a42_15_VsJObj o42_15_VsJObj mixed (by constructor) (by kernel_rfl) (by kernel_rfl) (by with_unfolding_all rfl) ?_); intro K hK) | with_reducible refine Rr.go [] (by constructor) ?_ | (with_reducible refine guardP_split (fun hg => ?_) fun hg => ?_) <;> (try simp only [hg]) <;> (try simp only [hgW] at hg) | refine Rc.go c59 (by constructor) ?_) <;> simp -implicitDefEqProofs only [RJ.cells, Array.size_empty, ck57, ck60, hn, go_sem, simprocAttr] <;> try (simp (disch := omega) only [wrW]; try simp -implicitDefEqProofs only [RJ.cells, Array.size_empty, ck57, ck60, hn, go_sem, simprocAttr]))
           | with_reducible refine And.intro (by first | omega | (simp only [hgW]; omega)) ?_
           | (exfalso; omega)
          simp -implicitDefEqProofs only [RJ.cells, Array.size_empty, ck57, ck60, hn, go_sem, simprocAttr]
          try rfl
      refine AWP.join [1, 2, 3, 4, 58] [] (St.mk (lk [(1, .ptr 1 0), (2, .ptr 2 0), (3, .ptr 3 0), (4, .str txt), (58, .hid (.fn 57 [.ptr 1 0]))]) (lkB [(1000000, S2.cells nb (4, 0)), (1, [.ptr 1000000 0]), (2, [.int .u8 0, .str [], .sl none true 1 [], .sl none true 1 []]), (3, [.int .u8 1, .str [], .sl (some ((0, 998), 0)) ns.isEmpty 1 (ns.map .str), .sl (some ((0, 999), 0)) ks.isEmpty 1 (ks.map i64n)])]) (hasS []) (hasS []) (hasN []) (lkR [])) ?_ ?_
      · cases cb with
        | true =>
          rw [if_pos rfl] at hS2
          subst hS2
          obtain ⟨S1b, S1a, S1d, S1n, S1e⟩ := S1
          obtain ⟨C2b, C2a, C2d, C2n, C2e⟩ := C2
          repeat' first
           | with_reducible refine Rl.go (by constructor <;> decide) ?_
           | ((with_reducible first | refine hK _ ?_ | refine hK.1 ?_ | refine hK.2 ?_); clear hK K)
           | ((with_reducible refine condS hK (fun hg => ?_) fun hg => ?_) <;> clear hK K <;> (try simp only [hgW] at hg) <;> try (exfalso; omega))
           | ((first | ((with_reducible first | refine Rk.go k42_VsJObj (by constructor) ?_ | refine Rm.go 15 k42_VsJObj p42_15_VsJObj a42_15_VsJObj o42_15_VsJObj mixed (by constructor) (by kernel_rfl) (by kernel_rfl) (by with_unfolding_all rfl) ?_); intro K hK) | with_reducible refine Rr.go [] (by constructor) ?_ | (with_reducible refine guardP_split (fun hg => ?_) fun hg => ?_) <;> (try simp only [hg]) <;> (try simp only [hgW] at hg) | (with_reducible refine callE_B4 c58c ?_)) <;> simp -implicitDefEqProofs only [eqOk_true, RJ.cells, Array.size_empty, ck57, ck60, hn, go_sem, simprocAttr] <;> try (simp (disch := omega) only [wrW]; try simp -implicitDefEqProofs only [RJ.cells, Array.size_empty, ck57, ck60, hn, go_sem, simprocAttr]))
           | with_reducible refine And.intro (by first | omega | (simp only [hgW]; omega)) ?_
           | (exfalso; omega)
          simp -implicitDefEqProofs only [RJ.cells, Array.size_empty, ck57, ck60, hn, go_sem, simprocAttr]
          try rfl
        | false =>
          rw [if_neg (by decide)] at hS2
          rw [hS2] at c33c
          clear hS2
          obtain ⟨S1b, S1a, S1d, S1n, S1e⟩ := S1
          obtain ⟨C2b, C2a, C2d, C2n, C2e⟩ := C2
          obtain ⟨S2b, S2a, S2d, S2n, S2e⟩ := S2
          repeat' first
           | with_reducible refine Rl.go (by constructor <;> decide) ?_
           | ((with_reducible first | refine hK _ ?_ | refine hK.1 ?_ | refine hK.2 ?_); clear hK K)
           | ((with_reducible refine condS hK (fun hg => ?_) fun hg => ?_) <;> clear hK K <;> (try simp only [hgW] at hg) <;> try (exfalso; omega))
           | ((first | ((with_reducible first | refine Rk.go k42_VsJObj (by constructor) ?_ | refine Rm.go 15 k42_VsJObj p42_15_VsJObj a42_15_VsJObj o42_15_VsJObj mixed (by constructor) (by kernel_rfl) (by kernel_rfl) (by with_unfolding_all rfl) ?_); intro K hK) | with_reducible refine Rr.go [] (by constructor) ?_ | (with_reducible refine guardP_split (fun hg => ?_) fun hg => ?_) <;> (try simp only [hg]) <;> (try simp only [hgW] at hg) | (with_reducible refine callE_B4 c58c ?_) | (with_reducible refine callE_B4 c33c ?_)) <;> simp -implicitDefEqProofs only [eqOk_true, RJ.cells, Array.size_empty, ck57, ck60, hn, go_sem, simprocAttr] <;> try (simp (disch := omega) only [wrW]; try simp -implicitDefEqProofs only [RJ.cells, Array.size_empty, ck57, ck60, hn, go_sem, simprocAttr]))
           | with_reducible refine And.intro (by first | omega | (simp only [hgW]; omega)) ?_
           | (exfalso; omega)
          simp -implicitDefEqProofs only [RJ.cells, Array.size_empty, ck57, ck60, hn, go_sem, simprocAttr]
          try rfl
      clear hS1 hS2 c59 c33a c33c c58c c44 c32
      obtain ⟨S2b, S2a, S2d, S2n, S2e⟩ := S2
      obtain ⟨V2b, V2a, V2d, V2n, V2e⟩ := V2
      cases eb with
      | true =>
        rw [if_pos rfl] at x7
        subst x7
        subst hR
        have c57 := f57_ok E2 nb (by omega) (by omega)
        obtain ⟨E2b, E2a, E2d, E2n, E2e⟩ := E2
        repeat' first
         | with_reducible refine Rl.go (by constructor <;> decide) ?_
         | ((with_reducible first | refine hK _ ?_ | refine hK.1 ?_ | refine hK.2 ?_); clear hK K)
         | ((with_reducible refine condS hK (fun hg => ?_) fun hg => ?_) <;> clear hK K <;> (try simp only [hgW] at hg) <;> try (exfalso; omega))
         | ((with_reducible refine callE_B4 cV ?_); simp -implicitDefEqProofs only [eqOk_true, RJ.cells, JN.av, e1, e2, e3, e4, Array.size_empty, ck57, ck60, hn, go_sem, simprocAttr]; (skip; try (simp (disch := omega) only [wrW]; try simp -implicitDefEqProofs only [RJ.cells, JN.av, e1, e2, e3, e4, Array.size_empty, ck57, ck60, hn, go_sem, simprocAttr])); fail_if_success (with_reducible refine eqOk_mk ?_))
         | ((with_reducible refine retSD_mk c57 ?_); simp -implicitDefEqProofs only [eqOk_true, RJ.cells, JN.av, e1, e2, e3, e4, Array.size_empty, ck57, ck60, hn, go_sem, simprocAttr]; (skip; try (simp (disch := omega) only [wrW]; try simp -implicitDefEqProofs only [RJ.cells, JN.av, e1, e2, e3, e4, Array.size_empty, ck57, ck60, hn, go_sem, simprocAttr])); fail_if_success (with_reducible refine eqOk_mk ?_))
         | ((first | ((with_reducible first | refine Rk.go k42_VsJObj (by constructor) ?_ | refine Rm.go 15 k42_VsJObj p42_15_VsJObj a42_15_VsJObj o42_15_VsJObj mixed (by constructor) (by kernel_rfl) (by kernel_rfl) (by with_unfolding_all rfl) ?_); intro K hK) | with_reducible refine Rr.go [] (by constructor) ?_ | (with_reducible refine guardP_split (fun hg => ?_) fun hg => ?_) <;> (try simp only [hg]) <;> (try simp only [hgW] at hg) | (with_reducible refine callE_B4 c58a ?_)) <;> simp -implicitDefEqProofs only [eqOk_true, RJ.cells, JN.av, e1, e2, e3, e4, Array.size_empty, ck57, ck60, hn, go_sem, simprocAttr] <;> try (simp (disch := omega) only [wrW]; try simp -implicitDefEqProofs only [RJ.cells, JN.av, e1, e2, e3, e4, Array.size_empty, ck57, ck60, hn, go_sem, simprocAttr]))
         | with_reducible refine And.intro (by first | omega | (simp only [hgW]; omega)) ?_
         | (exfalso; omega)
      | false =>
        rw [if_neg (by decide)] at x7
        have c58b := f58_ok E2 nb (by have := hE.len; omega) (by have := hE.len; have := hE.at_; omega) 44
        have hF2 := signS_ok E2 44 hE
        obtain ⟨y1, y2, y3, y4⟩ := signS_b E2 44
        generalize signS E2 44 = FF at *
        obtain ⟨fb, F2⟩ := FF
        simp only at c58b hF2 y1 y2 y3 y4 x7
        cases fb with
        | true =>
          rw [if_pos rfl] at x7
          obtain ⟨E2b, E2a, E2d, E2n, E2e⟩ := E2
          obtain ⟨F2b, F2a, F2d, F2n, F2e⟩ := F2
          repeat' first
           | with_reducible refine Rl.go (by constructor <;> decide) ?_
           | ((with_reducible first | refine hK _ ?_ | refine hK.1 ?_ | refine hK.2 ?_); clear hK K)
           | ((with_reducible refine condS hK (fun hg => ?_) fun hg => ?_) <;> clear hK K <;> (try simp only [hgW] at hg) <;> try (exfalso; omega))
           | ((with_reducible refine callE_B4 cV ?_); simp -implicitDefEqProofs only [eqOk_true, RJ.cells, JN.av, e1, e2, e3, e4, Array.size_empty, ck57, ck60, hn, go_sem, simprocAttr]; (skip; try (simp (disch := omega) only [wrW]; try simp -implicitDefEqProofs only [RJ.cells, JN.av, e1, e2, e3, e4, Array.size_empty, ck57, ck60, hn, go_sem, simprocAttr])); fail_if_success (with_reducible refine eqOk_mk ?_))
           | ((with_reducible refine callE_B4 c58a ?_); simp -implicitDefEqProofs only [eqOk_true, RJ.cells, JN.av, e1, e2, e3, e4, Array.size_empty, ck57, ck60, hn, go_sem, simprocAttr]; (skip; try (simp (disch := omega) only [wrW]; try simp -implicitDefEqProofs only [RJ.cells, JN.av, e1, e2, e3, e4, Array.size_empty, ck57, ck60, hn, go_sem, simprocAttr])); fail_if_success (with_reducible refine eqOk_mk ?_))
           | ((with_reducible refine callE_B4 c58b ?_); simp -implicitDefEqProofs only [eqOk_true, RJ.cells, JN.av, e1, e2, e3, e4, Array.size_empty, ck57, ck60, hn, go_sem, simprocAttr]; (skip; try (simp (disch := omega) only [wrW]; try simp -implicitDefEqProofs only [RJ.cells, JN.av, e1, e2, e3, e4, Array.size_empty, ck57, ck60, hn, go_sem, simprocAttr])); fail_if_success (with_reducible refine eqOk_mk ?_))
           | ((first | ((with_reducible first | refine Rk.go k42_VsJObj (by constructor) ?_ | refine Rm.go 15 k42_VsJObj p42_15_VsJObj a42_15_VsJObj o42_15_VsJObj mixed (by constructor) (by kernel_rfl) (by kernel_rfl) (by with_unfolding_all rfl) ?_); intro K hK) | with_reducible refine Rr.go [] (by constructor) ?_ | (with_reducible refine guardP_split (fun hg => ?_) fun hg => ?_) <;> (try simp only [hg]) <;> (try simp only [hgW] at hg)) <;> simp -implicitDefEqProofs only [RJ.cells, JN.av, e1, e2, e3, e4, Array.size_empty, ck57, ck60, hn, go_sem, simprocAttr] <;> try (simp (disch := omega) only [wrW]; try simp -implicitDefEqProofs only [RJ.cells, JN.av, e1, e2, e3, e4, Array.size_empty, ck57, ck60, hn, go_sem, simprocAttr]))
           | with_reducible refine And.intro (by first | omega | (simp only [hgW]; omega)) ?_
           | (exfalso; omega)
          all_goals
            refine ⟨(n, ⟨F2b, F2a, F2d, F2n, F2e⟩, ns ++ [txt], ks ++ [v]), ?_, ⟨by simp only at *; omega, by simp only at *; rw [y1, u1]; exact kb, hF2, fun _ => x4', fun h => by simp only at *; have := km (by omega); rw [y3, u3]; omega, by simp only [List.length_append, List.length_cons, List.length_nil] at *; omega, by simp only [List.length_append, List.length_cons, List.length_nil] at *; omega, x7⟩, by simp only; omega⟩
            simp -implicitDefEqProofs only [RJ.cells, e3, e4, Array.size_empty, ck57, ck60, hn, go_sem, simprocAttr]
            try rfl
        | false =>
          rw [if_neg (by decide)] at x7
          have c33 := f33_ok F2 nb 11
          have hF := fail_ok F2 11 hF2
          obtain ⟨w1, w2, w3, w4, w5⟩ := fail_b F2 11
          generalize F2.fail 11 = F at *
          have w5' := w5 (by decide)
          obtain ⟨E2b, E2a, E2d, E2n, E2e⟩ := E2
          obtain ⟨F2b, F2a, F2d, F2n, F2e⟩ := F2
          obtain ⟨Fb, Fa, Fd, Fn, Fe⟩ := F
          repeat' first
           | with_reducible refine Rl.go (by constructor <;> decide) ?_
           | ((with_reducible first | refine hK _ ?_ | refine hK.1 ?_ | refine hK.2 ?_); clear hK K)
           | ((with_reducible refine condS hK (fun hg => ?_) fun hg => ?_) <;> clear hK K <;> (try simp only [hgW] at hg) <;> try (exfalso; omega))
           | ((with_reducible refine callE_B4 cV ?_); simp -implicitDefEqProofs only [eqOk_true, RJ.cells, JN.av, e1, e2, e3, e4, Array.size_empty, ck57, ck60, hn, go_sem, simprocAttr]; (skip; try (simp (disch := omega) only [wrW]; try simp -implicitDefEqProofs only [RJ.cells, JN.av, e1, e2, e3, e4, Array.size_empty, ck57, ck60, hn, go_sem, simprocAttr])); fail_if_success (with_reducible refine eqOk_mk ?_))
           | ((with_reducible refine callE_B4 c58a ?_); simp -implicitDefEqProofs only [eqOk_true, RJ.cells, JN.av, e1, e2, e3, e4, Array.size_empty, ck57, ck60, hn, go_sem, simprocAttr]; (skip; try (simp (disch := omega) only [wrW]; try simp -implicitDefEqProofs only [RJ.cells, JN.av, e1, e2, e3, e4, Array.size_empty, ck57, ck60, hn, go_sem, simprocAttr])); fail_if_success (with_reducible refine eqOk_mk ?_))
           | ((with_reducible refine callE_B4 c58b ?_); simp -implicitDefEqProofs only [eqOk_true, RJ.cells, JN.av, e1, e2, e3, e4, Array.size_empty, ck57, ck60, hn, go_sem, simprocAttr]; (skip; try (simp (disch := omega) only [wrW]; try simp -implicitDefEqProofs only [RJ.cells, JN.av, e1, e2, e3, e4, Array.size_empty, ck57, ck60, hn, go_sem, simprocAttr])); fail_if_success (with_reducible refine eqOk_mk ?_))
           | ((first | ((with_reducible first | refine Rk.go k42_VsJObj (by constructor) ?_ | refine Rm.go 15 k42_VsJObj p42_15_VsJObj a42_15_VsJObj o42_15_VsJObj mixed (by constructor) (by kernel_rfl) (by kernel_rfl) (by with_unfolding_all rfl) ?_); intro K hK) | with_reducible refine Rr.go [] (by constructor) ?_ | (with_reducible refine guardP_split (fun hg => ?_) fun hg => ?_) <;> (try simp only [hg]) <;> (try simp only [hgW] at hg) | (with_reducible refine callE_B4 c33 ?_)) <;> simp -implicitDefEqProofs only [eqOk_true, RJ.cells, JN.av, e1, e2, e3, e4, Array.size_empty, ck57, ck60, hn, go_sem, simprocAttr] <;> try (simp (disch := omega) only [wrW]; try simp -implicitDefEqProofs only [RJ.cells, JN.av, e1, e2, e3, e4, Array.size_empty, ck57, ck60, hn, go_sem, simprocAttr]))
           | with_reducible refine And.intro (by first | omega | (simp only [hgW]; omega)) ?_
           | (exfalso; omega)
          all_goals
            refine ⟨(n, ⟨Fb, Fa, Fd, Fn, Fe⟩, ns ++ [txt], ks ++ [v]), ?_, ⟨by simp only at *; omega, by simp only at *; rw [w1, y1, u1]; exact kb, hF, fun h => absurd h w5', fun h => absurd h w5', by simp only [List.length_append, List.length_cons, List.length_nil] at *; omega, by simp only [List.length_append, List.length_cons, List.length_nil] at *; omega, x7⟩, by simp only; omega⟩
            simp -implicitDefEqProofs only [RJ.cells, e3, e4, Array.size_empty, ck57, ck60, hn, go_sem, simprocAttr]
            try rfl
    · have hA' : A = ((ns, ks), s2) := by
        rw [← x7]
        cases n with
        | zero => rfl
        | succ n => unfold objS; rw [if_pos he]
      subst hA'
      subst hR
      have c57 := f57_ok s2 nb (by omega) (by omega)
      obtain ⟨b2, at2, deep2, nodes2, err2⟩ := s2
      simp only at he x1
      subst x1
      repeat' first
       | with_reducible refine Rl.go (by constructor <;> decide) ?_
       | ((with_reducible first | refine hK _ ?_ | refine hK.1 ?_ | refine hK.2 ?_); clear hK K)
       | ((with_reducible refine condS hK (fun hg => ?_) fun hg => ?_) <;> clear hK K <;> (try simp only [hgW] at hg) <;> try (exfalso; omega))
       | ((with_reducible refine retSD_mk c57 ?_); simp -implicitDefEqProofs only [eqOk_true, RJ.cells, JN.av, he, Array.size_empty, ck57, ck60, hn, go_sem, simprocAttr]; (skip; try (simp (disch := omega) only [wrW]; try simp -implicitDefEqProofs only [RJ.cells, JN.av, he, Array.size_empty, ck57, ck60, hn, go_sem, simprocAttr])); fail_if_success (with_reducible refine eqOk_mk ?_))
       | ((first | ((with_reducible first | refine Rk.go k42_VsJObj (by constructor) ?_ | refine Rm.go 15 k42_VsJObj p42_15_VsJObj a42_15_VsJObj o42_15_VsJObj mixed (by constructor) (by kernel_rfl) (by kernel_rfl) (by with_unfolding_all rfl) ?_); intro K hK) | with_reducible refine Rr.go [] (by constructor) ?_ | (with_reducible refine guardP_split (fun hg => ?_) fun hg => ?_) <;> (try simp only [hg]) <;> (try simp only [hgW] at hg)) <;> simp -implicitDefEqProofs only [RJ.cells, JN.av, he, Array.size_empty, ck57, ck60, hn, go_sem, simprocAttr] <;> try (simp (disch := omega) only [wrW]; try simp -implicitDefEqProofs only [RJ.cells, JN.av, he, Array.size_empty, ck57, ck60, hn, go_sem, simprocAttr]))
       | with_reducible refine And.intro (by first | omega | (simp only [hgW]; omega)) ?_
       | (exfalso; omega)
end Go.Proofs.YtfemncfhiihckaaDoor
