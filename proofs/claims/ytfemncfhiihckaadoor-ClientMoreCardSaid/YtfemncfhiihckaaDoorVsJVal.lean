/- What the reader's arrays, objects and values come to. -/
import Derived.Test.YtfemncfhiihckaaDoorVsJWord
import Derived.Test.YtfemncfhiihckaaDoorVsJNum2
import Derived.Test.YtfemncfhiihckaaDoorVsJText
open Go Go.VS
namespace Go.Proofs.YtfemncfhiihckaaDoor
set_option linter.unusedVariables false
set_option linter.unusedSimpArgs false
set_option maxRecDepth 20000
set_option maxHeartbeats 4000000
theorem ck57 : callOk Tryd.prog 57 = true := by kernel_rfl
theorem ck60 : callOk Tryd.prog 60 = true := by kernel_rfl
def openS (s : RJ) : RJ := { (if 8 < s.deep + 1 then ({ s with deep := s.deep + 1 } : RJ).fail 13 else { s with deep := s.deep + 1 }) with at_ := s.at_ + 1 }
def shutS (s : RJ) : RJ := { s with deep := s.deep - 1 }
def k57_VsJVal : List Nat := [0]
attribute [go_sem] k57_VsJVal
theorem f57_ok (s : RJ) (nb : Bool) (hd : 1 ≤ s.deep) (hd2 : s.deep ≤ 100) : CallsBD Tryd.prog 57 [.ptr 1000000 0] [[.ptr 1000001 0], s.cells nb (4, 0)] (.tup []) [[.ptr 1000001 0], (shutS s).cells nb (3, 0)] := by
  obtain ⟨b, at_, deep, nodes, err⟩ := s
  simp only at hd hd2
  have e1 : (deep : Int) - 1 = ((deep - 1 : Nat) : Int) := by omega
  unfold shutS
  refine CallsBD.intro Tryd.func57 rfl (by show 1 ≤ 8; decide) ?_
  rintro X hX
  have hn : X.n = 8 := hX
  unfold Tryd.f57
  dsimp only
  rw [entryB12]
  repeat' first
   | with_reducible refine Rl.go (by constructor <;> decide) ?_
   | ((with_reducible first | refine hK _ ?_ | refine hK.1 ?_ | refine hK.2 ?_); clear hK K)
   | ((with_reducible refine condS hK (fun hg => ?_) fun hg => ?_) <;> clear hK K <;> (try simp only [hgW] at hg) <;> try (exfalso; omega))
   | ((first | ((with_reducible first | refine Rk.go k57_VsJVal (by constructor) ?_); intro K hK) | with_reducible refine Rr.go [] (by constructor) ?_ | (with_reducible refine guardP_split (fun hg => ?_) fun hg => ?_) <;> (try simp only [hg]) <;> (try simp only [hgW] at hg)) <;> simp -implicitDefEqProofs only [RJ.cells, e1, hn, go_sem, simprocAttr] <;> try (simp (disch := omega) only [wrW]; try simp -implicitDefEqProofs only [RJ.cells, e1, hn, go_sem, simprocAttr]))
   | with_reducible refine And.intro (by first | omega | (simp only [hgW]; omega)) ?_
   | (exfalso; omega)
def k60_VsJVal : List Nat := [0]
attribute [go_sem] k60_VsJVal
theorem f60_ok (s : RJ) (nb : Bool) (hd : 1 ≤ s.deep) (hd2 : s.deep ≤ 100) : CallsBD Tryd.prog 60 [.ptr 1000000 0] [[.ptr 1000001 0], s.cells nb (4, 0)] (.tup []) [[.ptr 1000001 0], (shutS s).cells nb (3, 0)] := by
  obtain ⟨b, at_, deep, nodes, err⟩ := s
  simp only at hd hd2
  have e1 : (deep : Int) - 1 = ((deep - 1 : Nat) : Int) := by omega
  unfold shutS
  refine CallsBD.intro Tryd.func60 rfl (by show 1 ≤ 8; decide) ?_
  rintro X hX
  have hn : X.n = 8 := hX
  unfold Tryd.f60
  dsimp only
  rw [entryB12]
  repeat' first
   | with_reducible refine Rl.go (by constructor <;> decide) ?_
   | ((with_reducible first | refine hK _ ?_ | refine hK.1 ?_ | refine hK.2 ?_); clear hK K)
   | ((with_reducible refine condS hK (fun hg => ?_) fun hg => ?_) <;> clear hK K <;> (try simp only [hgW] at hg) <;> try (exfalso; omega))
   | ((first | ((with_reducible first | refine Rk.go k60_VsJVal (by constructor) ?_); intro K hK) | with_reducible refine Rr.go [] (by constructor) ?_ | (with_reducible refine guardP_split (fun hg => ?_) fun hg => ?_) <;> (try simp only [hg]) <;> (try simp only [hgW] at hg)) <;> simp -implicitDefEqProofs only [RJ.cells, e1, hn, go_sem, simprocAttr] <;> try (simp (disch := omega) only [wrW]; try simp -implicitDefEqProofs only [RJ.cells, e1, hn, go_sem, simprocAttr]))
   | with_reducible refine And.intro (by first | omega | (simp only [hgW]; omega)) ?_
   | (exfalso; omega)
/-- Where a reader may stand. -/
structure OkJ (s : RJ) : Prop where
  at_ : s.at_ ≤ s.b.length
  len : s.b.length ≤ 100000
  nod : s.nodes.length ≤ 256
structure KeepV (val : RJ → Nat × RJ) : Prop where
  b : ∀ s, OkJ s → (val s).2.b = s.b
  deep : ∀ s, OkJ s → (val s).2.deep = s.deep
  ok : ∀ s, OkJ s → OkJ (val s).2
  more : ∀ s, OkJ s → (val s).2.err = 0 → s.nodes.length + 1 ≤ (val s).2.nodes.length
  pl : ∀ s, OkJ s → (val s).1 ≤ 256
def ValOk (val : RJ → Nat × RJ) (d : Nat) : Prop := ∀ (s : RJ) (nb : Bool), s.deep = d → OkJ s → CallsB Tryd.prog 31 [.ptr 1000000 0] [s.cells nb (4, 0)] (.int .i64 ((val s).1 : Int)) [(val s).2.cells nb (3, 0)]
/-- Values, one behind the other. -/
def arrS (val : RJ → Nat × RJ) : Nat → RJ → List Nat → List Nat × RJ
  | 0, s, ks => (ks, s)
  | n + 1, s, ks =>
    if s.err ≠ 0 then (ks, s)
    else if (signS (val s).2 93).1 = true then (ks ++ [(val s).1], (signS (val s).2 93).2)
    else if (signS (signS (val s).2 93).2 44).1 = true then arrS val n (signS (signS (val s).2 93).2 44).2 (ks ++ [(val s).1])
    else arrS val n ((signS (signS (val s).2 93).2 44).2.fail 11) (ks ++ [(val s).1])
def arrayS (val : RJ → Nat × RJ) (s : RJ) : JN × RJ :=
  if (signS (openS s) 93).1 = true then (⟨2, [], [], []⟩, shutS (signS (openS s) 93).2)
  else (⟨2, [], [], (arrS val 300 (signS (openS s) 93).2 []).1⟩, shutS (arrS val 300 (signS (openS s) 93).2 []).2)
theorem nextAt_le (b : List UInt8) (i : Nat) (h : i ≤ b.length) : i ≤ nextAt b i ∧ nextAt b i ≤ b.length := by
  unfold nextAt
  have := (List.takeWhile_sublist (l := b.drop i) blank).length_le
  rw [List.length_drop] at this
  omega
theorem hereS_ok (s : RJ) (h : OkJ s) : OkJ (hereS s).2 := by
  obtain ⟨q1, q2, q3, q4⟩ := hereS_b s
  have hn := nextAt_le s.b s.at_ h.at_
  refine ⟨?_, by rw [q1]; exact h.len, by rw [q3]; exact h.nod⟩
  rw [q1]
  unfold hereS
  split
  · exact h.at_
  · split
    · exact hn.2
    · exact hn.2
theorem signS_b (s : RJ) (c : UInt8) : (signS s c).2.b = s.b ∧ (signS s c).2.deep = s.deep ∧ (signS s c).2.nodes = s.nodes ∧ (signS s c).2.err = s.err := by
  obtain ⟨q1, q2, q3, q4⟩ := hereS_b s
  unfold signS
  split <;> exact ⟨q1, q2, q3, q4⟩
theorem signS_ok (s : RJ) (c : UInt8) (h : OkJ s) : OkJ (signS s c).2 := by
  obtain ⟨q1, q2, q3, q4⟩ := signS_b s c
  refine ⟨?_, by rw [q1]; exact h.len, by rw [q3]; exact h.nod⟩
  rw [q1]
  have hh := hereS_ok s h
  have hb := (hereS_b s).1
  unfold signS
  split
  · rw [← hb]; exact hh.at_
  · rename_i hc
    simp only [not_or, Nat.not_le] at hc
    rw [← hb]; exact hc.2.2
theorem fail_b (s : RJ) (e : Nat) : (s.fail e).b = s.b ∧ (s.fail e).deep = s.deep ∧ (s.fail e).nodes = s.nodes ∧ (s.fail e).at_ = s.at_ ∧ (e ≠ 0 → (s.fail e).err ≠ 0) := by
  unfold RJ.fail
  split
  · exact ⟨rfl, rfl, rfl, rfl, id⟩
  · rename_i h; exact ⟨rfl, rfl, rfl, rfl, fun _ => h⟩
theorem fail_ok (s : RJ) (e : Nat) (h : OkJ s) : OkJ (s.fail e) := by
  obtain ⟨q1, q2, q3, q4, _⟩ := fail_b s e
  exact ⟨by rw [q4, q1]; exact h.at_, by rw [q1]; exact h.len, by rw [q3]; exact h.nod⟩
theorem openS_b (s : RJ) : (openS s).b = s.b ∧ (openS s).deep = s.deep + 1 ∧ (openS s).nodes = s.nodes ∧ (openS s).at_ = s.at_ + 1 ∧ (8 < s.deep + 1 → (openS s).err ≠ 0) := by
  unfold openS
  split
  · obtain ⟨q1, q2, q3, q4, q5⟩ := fail_b { s with deep := s.deep + 1 } 13
    exact ⟨q1, q2, q3, rfl, fun _ => q5 (by decide)⟩
  · rename_i h
    exact ⟨rfl, rfl, rfl, rfl, fun h' => absurd h' h⟩
structure ArrI (val : RJ → Nat × RJ) (D : Nat) (b : List UInt8) (R : List Nat × RJ) (x : Nat × RJ × List Nat) : Prop where
  deep : x.2.1.deep = D
  eb : x.2.1.b = b
  ok : OkJ x.2.1
  dp : x.2.1.err = 0 → D ≤ 8
  fu : x.2.1.err = 0 → 256 < x.1 + x.2.1.nodes.length
  kl : x.2.2.length + x.1 ≤ 300
  eq : arrS val x.1 x.2.1 x.2.2 = R
def MarkD (p : Prop) : Prop := p
theorem markD (id : Nat) {P : Program} {X : Ent} {ops : Array Oper} {d : Bool} {x y : Code} {Q : Exit → St → Prop} {st : St} (h : MarkD (AWP P X (.seq (.seq (.region id ops d) x) y) Q st)) : AWP P X (.seq (.seq (.region id ops d) x) y) Q st := h
theorem AWP.join {P : Program} {X : Ent} {x y : Code} {Q : Exit → St → Prop} {st : St} (ks ds : List Nat) (S : St) (h : AWP P X x (thenS (fun s => VS.slim ks ds s = S) Q) st) (h2 : AWP P X y Q S) : AWP P X (.seq x y) Q st :=
  AWP.seq (AWP.mono h fun e s he => by
    cases e with
    | normal => exact AWP.slim ks ds (by rw [show VS.slim ks ds s = S from he]; exact h2)
    | _ => exact he)
def k43_VsJVal : List Nat := [0,1,2,3,4,10,16,26,29,33]
attribute [go_sem] k43_VsJVal
theorem f43_ok {val : RJ → Nat × RJ} (K : KeepV val) (s : RJ) (nb : Bool) (hit : s.deep + 1 ≤ 8 → ValOk val (s.deep + 1)) (hok : OkJ s) (hat : s.at_ < s.b.length) (hdp : s.deep ≤ 8) :
    CallsB Tryd.prog 43 [.ptr 1000000 0] [s.cells nb (4, 0)] (arrayS val s).1.av [(arrayS val s).2.cells nb (3, 0)] := by
  have c56 : CallsB Tryd.prog 56 [.ptr 1000000 0] [s.cells nb (4, 0)] (.tup []) [(openS s).cells nb (3, 0)] := f56_ok s nb (by omega) (by have := hok.len; have := hok.at_; omega)
  obtain ⟨p1, p2, p3, p4, p5⟩ := openS_b s
  obtain ⟨R, hR⟩ : ∃ R, arrayS val s = R := ⟨_, rfl⟩
  rw [hR]
  unfold arrayS at hR
  have hOk : OkJ (openS s) := ⟨by rw [p4, p1]; omega, by rw [p1]; exact hok.len, by rw [p3]; exact hok.nod⟩
  generalize openS s = O at *
  have c58 := f58_ok O nb (by have := hOk.len; omega) (by have := hOk.len; have := hOk.at_; omega) 93
  have hSk := signS_ok O 93 hOk
  obtain ⟨r1, r2, r3, r4⟩ := signS_b O 93
  generalize signS O 93 = S at *
  obtain ⟨sb, T⟩ := S
  simp only at c58 hSk r1 r2 r3 r4 hR
  obtain ⟨b, at_, deep, nodes, err⟩ := s
  obtain ⟨Ob, Oa, Od, On, Oe⟩ := O
  simp only at *
  subst p1 p2 p3 p4
  cases sb with
  | true =>
    rw [if_pos rfl] at hR
    subst hR
    have c60 := f60_ok T nb (by omega) (by omega)
    obtain ⟨Tb, Ta, Td, Tn, Te⟩ := T
    refine CallsB.introD Tryd.func43 rfl (by show 1 ≤ 33; decide) ?_
    rintro X hX
    have hn : X.n = 33 := hX
    unfold Tryd.f43
    dsimp only
    rw [entryD11]
    repeat' first
     | with_reducible refine Rl.go (by constructor <;> decide) ?_
     | ((with_reducible first | refine hK _ ?_ | refine hK.1 ?_ | refine hK.2 ?_); clear hK K)
     | ((with_reducible refine condS hK (fun hg => ?_) fun hg => ?_) <;> clear hK K <;> (try simp only [hgW] at hg) <;> try (exfalso; omega))
     | ((with_reducible refine retSD_mk c60 ?_); simp -implicitDefEqProofs only [eqOk_true, RJ.cells, JN.av, Array.size_empty, ck57, ck60, hn, go_sem, simprocAttr]; (skip; try (simp (disch := omega) only [wrW]; try simp -implicitDefEqProofs only [RJ.cells, JN.av, Array.size_empty, ck57, ck60, hn, go_sem, simprocAttr])); fail_if_success (with_reducible refine eqOk_mk ?_))
     | ((first | ((with_reducible first | refine Rk.go k43_VsJVal (by constructor) ?_); intro K hK) | with_reducible refine Rr.go [] (by constructor) ?_ | (with_reducible refine guardP_split (fun hg => ?_) fun hg => ?_) <;> (try simp only [hg]) <;> (try simp only [hgW] at hg) | (with_reducible refine callE_B4 c56 ?_) | (with_reducible refine callE_B4 c58 ?_)) <;> simp -implicitDefEqProofs only [eqOk_true, RJ.cells, JN.av, Array.size_empty, ck57, ck60, hn, go_sem, simprocAttr] <;> try (simp (disch := omega) only [wrW]; try simp -implicitDefEqProofs only [RJ.cells, JN.av, Array.size_empty, ck57, ck60, hn, go_sem, simprocAttr]))
     | with_reducible refine And.intro (by first | omega | (simp only [hgW]; omega)) ?_
     | (exfalso; omega)
  | false =>
    rw [if_neg (by decide)] at hR
    obtain ⟨A, hA⟩ : ∃ A, arrS val 300 T [] = A := ⟨_, rfl⟩
    rw [hA] at hR
    obtain ⟨Tb, Ta, Td, Tn, Te⟩ := T
    simp only at *
    subst r1 r2 r3 r4
    refine CallsB.introD Tryd.func43 rfl (by show 1 ≤ 33; decide) ?_
    rintro X hX
    have hn : X.n = 33 := hX
    unfold Tryd.f43
    dsimp only
    rw [entryD11]
    repeat' first
     | with_reducible refine Rl.go (by constructor <;> decide) ?_
     | ((with_reducible first | refine hK _ ?_ | refine hK.1 ?_ | refine hK.2 ?_); clear hK K)
     | ((with_reducible refine condS hK (fun hg => ?_) fun hg => ?_) <;> clear hK K <;> (try simp only [hgW] at hg) <;> try (exfalso; omega))
     | ((first | ((with_reducible first | refine Rk.go k43_VsJVal (by constructor) ?_); intro K hK) | with_reducible refine Rr.go [] (by constructor) ?_ | (with_reducible refine guardP_split (fun hg => ?_) fun hg => ?_) <;> (try simp only [hg]) <;> (try simp only [hgW] at hg) | (with_reducible refine callE_B4 c56 ?_) | (with_reducible refine callE_B4 c58 ?_)) <;> simp -implicitDefEqProofs only [eqOk_true, RJ.cells, JN.av, Array.size_empty, ck57, ck60, hn, go_sem, simprocAttr] <;> try (simp (disch := omega) only [wrW]; try simp -implicitDefEqProofs only [RJ.cells, JN.av, Array.size_empty, ck57, ck60, hn, go_sem, simprocAttr]))
     | with_reducible refine And.intro (by first | omega | (simp only [hgW]; omega)) ?_
     | (exfalso; omega)
    refine AWP.adoptB 3 3 (0, 999) 0 1 (by rfl) (by rfl) ?_
    refine AWP.loopX [1, 2, 3, 33] [] (fun x : Nat × RJ × List Nat => St.mk (lk [(1, .ptr 1 0), (2, .ptr 2 0), (3, .ptr 3 0), (33, .hid (.fn 60 [.ptr 1 0]))])
        (lkB [(1000000, x.2.1.cells nb (4, 0)), (1, [.ptr 1000000 0]), (2, [.int .u8 0, .str [], .sl none true 1 [], .sl none true 1 []]), (3, [.int .u8 2, .str [], .sl none true 1 [], .sl (some ((0, 999), 0)) x.2.2.isEmpty 1 (x.2.2.map i64n)])]) (hasS []) (hasS []) (hasN []) (lkR []))
      (ArrI val (deep + 1) Tb A) (fun x => x.1) (300, ⟨Tb, Ta, deep + 1, Tn, Te⟩, []) ?_ ⟨rfl, rfl, hSk, fun h => Nat.le_of_not_lt fun h' => p5 h' h, fun _ => by simp only; omega, by simp, hA⟩ ?_
    · simp -implicitDefEqProofs only [RJ.cells, Array.size_empty, ck57, ck60, hn, go_sem, simprocAttr]
      try rfl
    rintro ⟨n, ⟨b2, at2, deep2, nodes2, err2⟩, ks⟩ ⟨x1, x2, x3, x4, x5, x6, x7⟩
    simp only at x1 x2 x3 x4 x5 x6 x7
    subst x1 x2
    by_cases he : err2 = 0
    · subst he
      have x5' := x5 rfl
      have x4' := x4 rfl
      have hnl := x3.nod
      simp only at hnl
      obtain ⟨n, rfl⟩ : ∃ m, n = m + 1 := ⟨n - 1, by omega⟩
      unfold arrS at x7
      rw [if_neg (by simp)] at x7
      have cV := hit x4' ⟨b2, at2, deep + 1, nodes2, 0⟩ nb rfl x3
      have kb := K.b _ x3
      have kd := K.deep _ x3
      have ko := K.ok _ x3
      have km := K.more _ x3
      generalize val ⟨b2, at2, deep + 1, nodes2, 0⟩ = V at *
      obtain ⟨v, V2⟩ := V
      simp only at kb kd ko km cV x7
      have c58a := f58_ok V2 nb (by have := ko.len; omega) (by have := ko.len; have := ko.at_; omega) 93
      have hS1 := signS_ok V2 93 ko
      obtain ⟨u1, u2, u3, u4⟩ := signS_b V2 93
      generalize signS V2 93 = S1 at *
      obtain ⟨sb1, T1⟩ := S1
      simp only at c58a hS1 u1 u2 u3 u4 x7
      obtain ⟨Vb, Va, Vd, Vn, Ve⟩ := V2
      obtain ⟨T1b, T1a, T1d, T1n, T1e⟩ := T1
      simp only at *
      subst u1 u2 u3 u4 kb kd
      have e1 : ks.map i64n ++ [AV.int .i64 (v : Int)] = (ks ++ [v]).map i64n := by rw [List.map_append]; rfl
      have e3 : (ks ++ [v]).isEmpty = false := by simp
      cases sb1 with
      | true =>
        rw [if_pos rfl] at x7
        subst x7
        subst hR
        have c60 := f60_ok ⟨T1b, T1a, deep + 1, T1n, T1e⟩ nb (by simp) (by simp only; omega)
        repeat' first
         | with_reducible refine Rl.go (by constructor <;> decide) ?_
         | ((with_reducible first | refine hK _ ?_ | refine hK.1 ?_ | refine hK.2 ?_); clear hK K)
         | ((with_reducible refine condS hK (fun hg => ?_) fun hg => ?_) <;> clear hK K <;> (try simp only [hgW] at hg) <;> try (exfalso; omega))
         | ((with_reducible refine callE_B4 cV ?_); simp -implicitDefEqProofs only [eqOk_true, RJ.cells, JN.av, e1, e3, Array.size_empty, ck57, ck60, hn, go_sem, simprocAttr]; (skip; try (simp (disch := omega) only [wrW]; try simp -implicitDefEqProofs only [RJ.cells, JN.av, e1, e3, Array.size_empty, ck57, ck60, hn, go_sem, simprocAttr])); fail_if_success (with_reducible refine eqOk_mk ?_))
         | ((with_reducible refine retSD_mk c60 ?_); simp -implicitDefEqProofs only [eqOk_true, RJ.cells, JN.av, e1, e3, Array.size_empty, ck57, ck60, hn, go_sem, simprocAttr]; (skip; try (simp (disch := omega) only [wrW]; try simp -implicitDefEqProofs only [RJ.cells, JN.av, e1, e3, Array.size_empty, ck57, ck60, hn, go_sem, simprocAttr])); fail_if_success (with_reducible refine eqOk_mk ?_))
         | ((first | ((with_reducible first | refine Rk.go k43_VsJVal (by constructor) ?_); intro K hK) | with_reducible refine Rr.go [] (by constructor) ?_ | (with_reducible refine guardP_split (fun hg => ?_) fun hg => ?_) <;> (try simp only [hg]) <;> (try simp only [hgW] at hg) | (with_reducible refine callE_B4 c58a ?_)) <;> simp -implicitDefEqProofs only [eqOk_true, RJ.cells, JN.av, e1, e3, Array.size_empty, ck57, ck60, hn, go_sem, simprocAttr] <;> try (simp (disch := omega) only [wrW]; try simp -implicitDefEqProofs only [RJ.cells, JN.av, e1, e3, Array.size_empty, ck57, ck60, hn, go_sem, simprocAttr]))
         | with_reducible refine And.intro (by first | omega | (simp only [hgW]; omega)) ?_
         | (exfalso; omega)
      | false =>
        rw [if_neg (by decide)] at x7
        have c58b := f58_ok ⟨T1b, T1a, deep + 1, T1n, T1e⟩ nb (by have := hS1.len; simp only at this ⊢; omega) (by have := hS1.len; have := hS1.at_; simp only at *; omega) 44
        have hS2 := signS_ok _ 44 hS1
        obtain ⟨u1, u2, u3, u4⟩ := signS_b ⟨T1b, T1a, deep + 1, T1n, T1e⟩ 44
        generalize signS ⟨T1b, T1a, deep + 1, T1n, T1e⟩ 44 = S2 at *
        obtain ⟨sb2, T2⟩ := S2
        simp only at c58b hS2 u1 u2 u3 u4 x7
        cases sb2 with
        | true =>
          rw [if_pos rfl] at x7
          obtain ⟨T2b, T2a, T2d, T2n, T2e⟩ := T2
          simp only at *
          subst u1 u2 u3 u4
          repeat' first
           | with_reducible refine Rl.go (by constructor <;> decide) ?_
           | ((with_reducible first | refine hK _ ?_ | refine hK.1 ?_ | refine hK.2 ?_); clear hK K)
           | ((with_reducible refine condS hK (fun hg => ?_) fun hg => ?_) <;> clear hK K <;> (try simp only [hgW] at hg) <;> try (exfalso; omega))
           | ((with_reducible refine callE_B4 cV ?_); simp -implicitDefEqProofs only [eqOk_true, RJ.cells, JN.av, e1, e3, Array.size_empty, ck57, ck60, hn, go_sem, simprocAttr]; (skip; try (simp (disch := omega) only [wrW]; try simp -implicitDefEqProofs only [RJ.cells, JN.av, e1, e3, Array.size_empty, ck57, ck60, hn, go_sem, simprocAttr])); fail_if_success (with_reducible refine eqOk_mk ?_))
           | ((with_reducible refine callE_B4 c58a ?_); simp -implicitDefEqProofs only [eqOk_true, RJ.cells, JN.av, e1, e3, Array.size_empty, ck57, ck60, hn, go_sem, simprocAttr]; (skip; try (simp (disch := omega) only [wrW]; try simp -implicitDefEqProofs only [RJ.cells, JN.av, e1, e3, Array.size_empty, ck57, ck60, hn, go_sem, simprocAttr])); fail_if_success (with_reducible refine eqOk_mk ?_))
           | ((with_reducible refine callE_B4 c58b ?_); simp -implicitDefEqProofs only [eqOk_true, RJ.cells, JN.av, e1, e3, Array.size_empty, ck57, ck60, hn, go_sem, simprocAttr]; (skip; try (simp (disch := omega) only [wrW]; try simp -implicitDefEqProofs only [RJ.cells, JN.av, e1, e3, Array.size_empty, ck57, ck60, hn, go_sem, simprocAttr])); fail_if_success (with_reducible refine eqOk_mk ?_))
           | ((first | ((with_reducible first | refine Rk.go k43_VsJVal (by constructor) ?_); intro K hK) | with_reducible refine Rr.go [] (by constructor) ?_ | (with_reducible refine guardP_split (fun hg => ?_) fun hg => ?_) <;> (try simp only [hg]) <;> (try simp only [hgW] at hg)) <;> simp -implicitDefEqProofs only [RJ.cells, JN.av, e1, e3, Array.size_empty, ck57, ck60, hn, go_sem, simprocAttr] <;> try (simp (disch := omega) only [wrW]; try simp -implicitDefEqProofs only [RJ.cells, JN.av, e1, e3, Array.size_empty, ck57, ck60, hn, go_sem, simprocAttr]))
           | with_reducible refine And.intro (by first | omega | (simp only [hgW]; omega)) ?_
           | (exfalso; omega)
          refine ⟨(n, ⟨T2b, T2a, deep + 1, T2n, T2e⟩, ks ++ [v]), ?_, ⟨rfl, rfl, hS2, fun _ => x4', fun h => by have := km h; simp only; omega, by simp only [List.length_append, List.length_cons, List.length_nil]; omega, x7⟩, by simp only; omega⟩
          simp -implicitDefEqProofs only [RJ.cells, e3, Array.size_empty, ck57, ck60, hn, go_sem, simprocAttr]
          try rfl
        | false =>
          rw [if_neg (by decide)] at x7
          have c33 := f33_ok T2 nb 11
          have hF := fail_ok T2 11 hS2
          obtain ⟨w1, w2, w3, w4, w5⟩ := fail_b T2 11
          generalize T2.fail 11 = F at *
          obtain ⟨T2b, T2a, T2d, T2n, T2e⟩ := T2
          obtain ⟨Fb, Fa, Fd, Fn, Fe⟩ := F
          simp only at *
          subst u1 u2 u3 u4 w1 w2 w3 w4
          have w5' := w5 (by decide)
          repeat' first
           | with_reducible refine Rl.go (by constructor <;> decide) ?_
           | ((with_reducible first | refine hK _ ?_ | refine hK.1 ?_ | refine hK.2 ?_); clear hK K)
           | ((with_reducible refine condS hK (fun hg => ?_) fun hg => ?_) <;> clear hK K <;> (try simp only [hgW] at hg) <;> try (exfalso; omega))
           | ((with_reducible refine callE_B4 cV ?_); simp -implicitDefEqProofs only [eqOk_true, RJ.cells, JN.av, e1, e3, Array.size_empty, ck57, ck60, hn, go_sem, simprocAttr]; (skip; try (simp (disch := omega) only [wrW]; try simp -implicitDefEqProofs only [RJ.cells, JN.av, e1, e3, Array.size_empty, ck57, ck60, hn, go_sem, simprocAttr])); fail_if_success (with_reducible refine eqOk_mk ?_))
           | ((with_reducible refine callE_B4 c58a ?_); simp -implicitDefEqProofs only [eqOk_true, RJ.cells, JN.av, e1, e3, Array.size_empty, ck57, ck60, hn, go_sem, simprocAttr]; (skip; try (simp (disch := omega) only [wrW]; try simp -implicitDefEqProofs only [RJ.cells, JN.av, e1, e3, Array.size_empty, ck57, ck60, hn, go_sem, simprocAttr])); fail_if_success (with_reducible refine eqOk_mk ?_))
           | ((with_reducible refine callE_B4 c58b ?_); simp -implicitDefEqProofs only [eqOk_true, RJ.cells, JN.av, e1, e3, Array.size_empty, ck57, ck60, hn, go_sem, simprocAttr]; (skip; try (simp (disch := omega) only [wrW]; try simp -implicitDefEqProofs only [RJ.cells, JN.av, e1, e3, Array.size_empty, ck57, ck60, hn, go_sem, simprocAttr])); fail_if_success (with_reducible refine eqOk_mk ?_))
           | ((first | ((with_reducible first | refine Rk.go k43_VsJVal (by constructor) ?_); intro K hK) | with_reducible refine Rr.go [] (by constructor) ?_ | (with_reducible refine guardP_split (fun hg => ?_) fun hg => ?_) <;> (try simp only [hg]) <;> (try simp only [hgW] at hg) | (with_reducible refine callE_B4 c33 ?_)) <;> simp -implicitDefEqProofs only [eqOk_true, RJ.cells, JN.av, e1, e3, Array.size_empty, ck57, ck60, hn, go_sem, simprocAttr] <;> try (simp (disch := omega) only [wrW]; try simp -implicitDefEqProofs only [RJ.cells, JN.av, e1, e3, Array.size_empty, ck57, ck60, hn, go_sem, simprocAttr]))
           | with_reducible refine And.intro (by first | omega | (simp only [hgW]; omega)) ?_
           | (exfalso; omega)
          refine ⟨(n, ⟨Fb, Fa, deep + 1, Fn, Fe⟩, ks ++ [v]), ?_, ⟨rfl, rfl, hF, fun h => absurd h w5', fun h => absurd h w5', by simp only [List.length_append, List.length_cons, List.length_nil]; omega, x7⟩, by simp only; omega⟩
          simp -implicitDefEqProofs only [RJ.cells, e3, Array.size_empty, ck57, ck60, hn, go_sem, simprocAttr]
          try rfl
    · have hA' : A = (ks, ⟨b2, at2, deep + 1, nodes2, err2⟩) := by
        rw [← x7]
        cases n with
        | zero => rfl
        | succ n => unfold arrS; rw [if_pos he]
      subst hA'
      subst hR
      have c60 := f60_ok ⟨b2, at2, deep + 1, nodes2, err2⟩ nb (by simp) (by simp only; omega)
      repeat' first
       | with_reducible refine Rl.go (by constructor <;> decide) ?_
       | ((with_reducible first | refine hK _ ?_ | refine hK.1 ?_ | refine hK.2 ?_); clear hK K)
       | ((with_reducible refine condS hK (fun hg => ?_) fun hg => ?_) <;> clear hK K <;> (try simp only [hgW] at hg) <;> try (exfalso; omega))
       | ((with_reducible refine retSD_mk c60 ?_); simp -implicitDefEqProofs only [eqOk_true, RJ.cells, JN.av, he, Array.size_empty, ck57, ck60, hn, go_sem, simprocAttr]; (skip; try (simp (disch := omega) only [wrW]; try simp -implicitDefEqProofs only [RJ.cells, JN.av, he, Array.size_empty, ck57, ck60, hn, go_sem, simprocAttr])); fail_if_success (with_reducible refine eqOk_mk ?_))
       | ((first | ((with_reducible first | refine Rk.go k43_VsJVal (by constructor) ?_); intro K hK) | with_reducible refine Rr.go [] (by constructor) ?_ | (with_reducible refine guardP_split (fun hg => ?_) fun hg => ?_) <;> (try simp only [hg]) <;> (try simp only [hgW] at hg)) <;> simp -implicitDefEqProofs only [RJ.cells, JN.av, he, Array.size_empty, ck57, ck60, hn, go_sem, simprocAttr] <;> try (simp (disch := omega) only [wrW]; try simp -implicitDefEqProofs only [RJ.cells, JN.av, he, Array.size_empty, ck57, ck60, hn, go_sem, simprocAttr]))
       | with_reducible refine And.intro (by first | omega | (simp only [hgW]; omega)) ?_
       | (exfalso; omega)
end Go.Proofs.YtfemncfhiihckaaDoor
