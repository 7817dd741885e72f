/- A value as a text, with blanks. -/
import Derived.Test.YtfemncfhiihckaaDoorVsMPlain
open Go Go.VS
namespace Go.Proofs.YtfemncfhiihckaaDoor
set_option linter.unusedVariables false
set_option linter.unusedSimpArgs false
set_option maxRecDepth 20000
set_option maxHeartbeats 4000000
inductive GV where
  | mk (k : UInt8) (t : List UInt8) (kn : Bool) (ks : List GV)
def GV.k : GV → UInt8 | .mk k _ _ _ => k
def GV.t : GV → List UInt8 | .mk _ t _ _ => t
def GV.ks : GV → List GV | .mk _ _ _ ks => ks
instance : Inhabited GV := ⟨.mk 0 [] true []⟩
mutual
def GV.av : GV → AV
  | .mk k t kn ks => .agg [.int .u8 (k.toNat : Int), .str t, .sl none kn 3 (gvs ks)]
def gvs : List GV → List AV
  | [] => []
  | c :: cs => c.av :: gvs cs
end
theorem gvs_map : ∀ (l : List GV), gvs l = l.map GV.av
  | [] => rfl
  | c :: cs => by simp [gvs, gvs_map cs]
theorem gav (k : UInt8) (t : List UInt8) (kn : Bool) (ks : List GV) : (GV.mk k t kn ks).av = .agg [.int .u8 (k.toNat : Int), .str t, .sl none kn 3 (ks.map GV.av)] := by rw [GV.av, gvs_map]
def GVok : Nat → GV → Prop
  | 0, _ => True
  | n + 1, .mk _ t _ ks => t.length ≤ 9223372036854775807 ∧ ks.length ≤ 9223372036854775807 ∧ ∀ k ∈ ks, GVok n k
def opT : Bool → UInt8 | true => 123 | false => 91
def shT : Bool → UInt8 | true => 125 | false => 93
def rndT (val : GV → List UInt8) (obj : Bool) (gap : List UInt8) (out : List UInt8) (i : Nat) (k : GV) : List UInt8 :=
  (bif obj then ((if 0 < i then out ++ (gap ++ [44]) else out) ++ gap) ++ ([34] ++ [UInt8.ofNat (97 + i)] ++ [34] ++ gap ++ [58] ++ gap) else (if 0 < i then out ++ (gap ++ [44]) else out) ++ gap) ++ val k
def kidsT (val : GV → List UInt8) (obj : Bool) (gap : List UInt8) : Nat → List UInt8 → List GV → List UInt8
  | _, out, [] => out
  | i, out, k :: ks => kidsT val obj gap (i + 1) (rndT val obj gap out i k) ks
def numsT : Nat → List UInt8
  | 0 => [48]
  | 1 => [45, 49, 50]
  | 2 => [49, 46, 53, 101, 43, 51]
  | _ => [49, 48, 69, 45, 50]
def leafT (m : Nat) (t : List UInt8) : List UInt8 :=
  match m with
  | 2 => [34] ++ plainT t ++ [34]
  | 3 => numsT (t.length % 4)
  | 4 => [116, 114, 117, 101]
  | 5 => [102, 97, 108, 115, 101]
  | _ => [110, 117, 108, 108]
def txtS (gap : List UInt8) : Nat → GV → List UInt8
  | 0, v => if v.k.toNat % 7 ≤ 1 then [91, 93] else leafT (v.k.toNat % 7) v.t
  | d + 1, v => if v.k.toNat % 7 ≤ 1 then kidsT (txtS gap d) (decide (v.k.toNat % 7 = 1)) gap 0 [opT (decide (v.k.toNat % 7 = 1))] (v.ks.take 9) ++ gap ++ [shT (decide (v.k.toNat % 7 = 1))] else leafT (v.k.toNat % 7) v.t
theorem leafT_len (m : Nat) (t : List UInt8) : (leafT m t).length ≤ 45 := by
  unfold leafT
  split
  · have := plainT_len t; simp; omega
  · unfold numsT
    split <;> simp
  all_goals simp
theorem rndT_len {val : GV → List UInt8} {obj : Bool} {gap out : List UInt8} {i : Nat} {k : GV} {B : Nat} (hg : gap.length ≤ 3) (hv : (val k).length ≤ B) : (rndT val obj gap out i k).length ≤ out.length + B + 17 := by
  unfold rndT
  cases obj <;> simp only [cond_true, cond_false] <;> split <;> simp only [List.length_append, List.length_cons, List.length_nil] <;> omega
theorem kidsT_len {val : GV → List UInt8} {obj : Bool} {gap : List UInt8} {B : Nat} (hg : gap.length ≤ 3) (hv : ∀ k, (val k).length ≤ B) : ∀ (ks : List GV) (i : Nat) (out : List UInt8), (kidsT val obj gap i out ks).length ≤ out.length + ks.length * (B + 17)
  | [], i, out => by rw [kidsT]; simp
  | k :: ks, i, out => by
    rw [kidsT]
    have h1 := kidsT_len (obj := obj) hg hv ks (i + 1) (rndT val obj gap out i k)
    have h2 := rndT_len (obj := obj) (out := out) (i := i) hg (hv k)
    rw [List.length_cons, Nat.add_mul, Nat.one_mul]
    omega
def lenT : Nat → Nat
  | 0 => 45
  | d + 1 => 9 * (lenT d + 17) + 5
theorem lenT_ge : ∀ d, 45 ≤ lenT d
  | 0 => Nat.le_refl _
  | d + 1 => by have := lenT_ge d; rw [lenT]; omega
theorem txtS_len {gap : List UInt8} (hg : gap.length ≤ 3) : ∀ (d : Nat) (v : GV), (txtS gap d v).length ≤ lenT d
  | 0, v => by
    unfold txtS
    have := leafT_len (v.k.toNat % 7) v.t
    split
    · decide
    · exact this
  | d + 1, v => by
    unfold txtS
    have := leafT_len (v.k.toNat % 7) v.t
    have h2 := lenT_ge d
    split
    · have h3 := kidsT_len (obj := decide (v.k.toNat % 7 = 1)) hg (txtS_len hg d) (v.ks.take 9) 0 [opT (decide (v.k.toNat % 7 = 1))]
      have h4 : (v.ks.take 9).length * (lenT d + 17) ≤ 9 * (lenT d + 17) := Nat.mul_le_mul_right _ (by rw [List.length_take]; omega)
      rw [List.length_append, List.length_append]
      simp only [List.length_cons, List.length_nil] at h3 ⊢
      rw [lenT]
      omega
    · rw [lenT]; omega
theorem e93 : (([93] : List UInt8) == [125]) = false := by decide
theorem e125 : (([125] : List UInt8) == [125]) = true := by decide
theorem bytes_one (c : UInt8) : bytesOf [AV.int .u8 (c.toNat : Int)] = some [c] := bytesOf_u8 [c]
def k15_VsMText : List Nat := [0,1,2,3,6,7,8,9,10,13,14,18,22,24,25,26,27,32,34,43,71,78,87,89]
attribute [go_sem] k15_VsMText
theorem leaf15 (gap : List UInt8) (k : UInt8) (t : List UInt8) (kn : Bool) (ks : List GV) (d : Int) (hm : 2 ≤ k.toNat % 7) (ht : t.length ≤ 9223372036854775807) :
    CallsP Tryd.prog 15 [.agg [.int .u8 (k.toNat : Int), .str t, .sl none kn 3 (ks.map GV.av)], .int .i64 d, .str gap] (.str (leafT (k.toNat % 7) t)) := by
  obtain ⟨m, hmm, hm7⟩ : ∃ m : Nat, k.toNat % 7 = m ∧ m < 7 := ⟨_, rfl, by omega⟩
  have hk7 : (k.toNat : Int) % 7 = (m : Int) := by omega
  rw [hmm] at hm ⊢
  by_cases h2 : m = 2
  · subst h2
    have c29 := f29_ok t
    have hpl := plainT_len t
    unfold leafT
    refine CallsP.intro Tryd.func15 rfl (by show 3 ≤ 91; decide) ?_
    rintro X hX
    have hn : X.n = 91 := hX
    unfold Tryd.f15
    dsimp only
    rw [entry3]
    repeat' first
     | with_reducible refine Rl.go (by constructor <;> decide) ?_
     | ((with_reducible first | refine hK _ ?_ | refine hK.1 ?_ | refine hK.2 ?_); clear hK K)
     | ((with_reducible refine condS hK (fun hg => ?_) fun hg => ?_) <;> clear hK K <;> (try simp only [hgW] at hg) <;> try (exfalso; omega))
     | ((first | ((with_reducible first | refine Rk.go k15_VsMText (by constructor) ?_); intro K hK) | with_reducible refine Rr.go [] (by constructor) ?_ | (with_reducible refine guardP_split (fun hg => ?_) fun hg => ?_) <;> (try simp only [hg]) <;> (try simp only [hgW] at hg) | refine Rc.go c29 (by constructor) ?_) <;> simp -implicitDefEqProofs only [hk7, hn, go_sem, simprocAttr] <;> try (simp (disch := omega) only [wrW]; try simp -implicitDefEqProofs only [hk7, hn, go_sem, simprocAttr]))
     | with_reducible refine And.intro (by first | omega | (simp only [hgW]; omega)) ?_
     | (exfalso; omega)
  by_cases h3 : m = 3
  · subst h3
    unfold leafT
    obtain ⟨j, hj, hj4⟩ : ∃ j : Nat, t.length % 4 = j ∧ j < 4 := ⟨_, rfl, by omega⟩
    have hjt : (t.length : Int) % 4 = (j : Int) := by omega
    have hni : [AV.str [48], AV.str [45, 49, 50], AV.str [49, 46, 53, 101, 43, 51], AV.str [49, 48, 69, 45, 50]][j]? = some (AV.str (numsT j)) := by
      rcases (by omega : j = 0 ∨ j = 1 ∨ j = 2 ∨ j = 3) with rfl | rfl | rfl | rfl <;> rfl
    rw [show numsT (t.length % 4) = numsT j by rw [hj]]
    refine CallsP.intro Tryd.func15 rfl (by show 3 ≤ 91; decide) ?_
    rintro X hX
    have hn : X.n = 91 := hX
    unfold Tryd.f15
    dsimp only
    rw [entry3]
    repeat' first
     | with_reducible refine Rl.go (by constructor <;> decide) ?_
     | ((with_reducible first | refine hK _ ?_ | refine hK.1 ?_ | refine hK.2 ?_); clear hK K)
     | ((with_reducible refine condS hK (fun hg => ?_) fun hg => ?_) <;> clear hK K <;> (try simp only [hgW] at hg) <;> try (exfalso; omega))
     | ((first | ((with_reducible first | refine Rk.go k15_VsMText (by constructor) ?_); intro K hK) | with_reducible refine Rr.go [] (by constructor) ?_ | (with_reducible refine guardP_split (fun hg => ?_) fun hg => ?_) <;> (try simp only [hg]) <;> (try simp only [hgW] at hg)) <;> simp -implicitDefEqProofs only [hk7, hjt, hni, hn, go_sem, simprocAttr] <;> try (simp (disch := omega) only [wrW]; try simp -implicitDefEqProofs only [hk7, hjt, hni, hn, go_sem, simprocAttr]))
     | with_reducible refine And.intro (by first | omega | (simp only [hgW]; omega)) ?_
     | (exfalso; omega)
  rcases (by omega : m = 4 ∨ m = 5 ∨ m = 6) with rfl | rfl | rfl
  all_goals
    unfold leafT
    refine CallsP.intro Tryd.func15 rfl (by show 3 ≤ 91; decide) ?_
    rintro X hX
    have hn : X.n = 91 := hX
    unfold Tryd.f15
    dsimp only
    rw [entry3]
    repeat' first
     | with_reducible refine Rl.go (by constructor <;> decide) ?_
     | ((with_reducible first | refine hK _ ?_ | refine hK.1 ?_ | refine hK.2 ?_); clear hK K)
     | ((with_reducible refine condS hK (fun hg => ?_) fun hg => ?_) <;> clear hK K <;> (try simp only [hgW] at hg) <;> try (exfalso; omega))
     | ((first | ((with_reducible first | refine Rk.go k15_VsMText (by constructor) ?_); intro K hK) | with_reducible refine Rr.go [] (by constructor) ?_ | (with_reducible refine guardP_split (fun hg => ?_) fun hg => ?_) <;> (try simp only [hg]) <;> (try simp only [hgW] at hg)) <;> simp -implicitDefEqProofs only [hk7, hn, go_sem, simprocAttr] <;> try (simp (disch := omega) only [wrW]; try simp -implicitDefEqProofs only [hk7, hn, go_sem, simprocAttr]))
     | with_reducible refine And.intro (by first | omega | (simp only [hgW]; omega)) ?_
     | (exfalso; omega)
theorem zero15 (gap : List UInt8) (k : UInt8) (t : List UInt8) (kn : Bool) (ks : List GV) (hm : k.toNat % 7 ≤ 1) :
    CallsP Tryd.prog 15 [.agg [.int .u8 (k.toNat : Int), .str t, .sl none kn 3 (ks.map GV.av)], .int .i64 0, .str gap] (.str [91, 93]) := by
  obtain ⟨m, hmm, hm7⟩ : ∃ m : Nat, k.toNat % 7 = m ∧ m ≤ 1 := ⟨_, rfl, by omega⟩
  have hk7 : (k.toNat : Int) % 7 = (m : Int) := by omega
  refine CallsP.intro Tryd.func15 rfl (by show 3 ≤ 91; decide) ?_
  rintro X hX
  have hn : X.n = 91 := hX
  unfold Tryd.f15
  dsimp only
  rw [entry3]
  repeat' first
   | with_reducible refine Rl.go (by constructor <;> decide) ?_
   | ((with_reducible first | refine hK _ ?_ | refine hK.1 ?_ | refine hK.2 ?_); clear hK K)
   | ((with_reducible refine condS hK (fun hg => ?_) fun hg => ?_) <;> clear hK K <;> (try simp only [hgW] at hg) <;> try (exfalso; omega))
   | ((first | ((with_reducible first | refine Rk.go k15_VsMText (by constructor) ?_); intro K hK) | with_reducible refine Rr.go [] (by constructor) ?_ | (with_reducible refine guardP_split (fun hg => ?_) fun hg => ?_) <;> (try simp only [hg]) <;> (try simp only [hgW] at hg)) <;> simp -implicitDefEqProofs only [hk7, hn, go_sem, simprocAttr] <;> try (simp (disch := omega) only [wrW]; try simp -implicitDefEqProofs only [hk7, hn, go_sem, simprocAttr]))
   | with_reducible refine And.intro (by first | omega | (simp only [hgW]; omega)) ?_
   | (exfalso; omega)
theorem kids15 (gap : List UInt8) (hgp : gap.length ≤ 3) (k : UInt8) (t : List UInt8) (kn : Bool) (ks : List GV) (hl : ks.length ≤ 9223372036854775807) (d : Nat) (hd : d ≤ 4) (obj : Bool)
    (hm : (k.toNat : Int) % 7 = bif obj then 1 else 0) (ih : ∀ v ∈ ks, CallsP Tryd.prog 15 [v.av, .int .i64 (d : Int), .str gap] (.str (txtS gap d v))) :
    CallsP Tryd.prog 15 [.agg [.int .u8 (k.toNat : Int), .str t, .sl none kn 3 (ks.map GV.av)], .int .i64 ((d + 1 : Nat) : Int), .str gap] (.str (kidsT (txtS gap d) obj gap 0 [opT obj] (ks.take 9) ++ gap ++ [shT obj])) := by
  have ed : ((d + 1 : Nat) : Int) - 1 = (d : Int) := by omega
  have hB : lenT d ≤ 424805 := by
    rcases (by omega : d = 0 ∨ d = 1 ∨ d = 2 ∨ d = 3 ∨ d = 4) with rfl | rfl | rfl | rfl | rfl <;> decide
  have hF := kidsT_len (obj := obj) hgp (txtS_len hgp d) (ks.take 9) 0 [opT obj]
  have h4 : (ks.take 9).length * (lenT d + 17) ≤ 9 * 424822 := Nat.le_trans (Nat.mul_le_mul_right _ (by rw [List.length_take]; omega)) (Nat.mul_le_mul_left 9 (show lenT d + 17 ≤ 424822 by omega))
  obtain ⟨F, hFF⟩ : ∃ F, kidsT (txtS gap d) obj gap 0 [opT obj] (ks.take 9) = F := ⟨_, rfl⟩
  rw [hFF] at hF ⊢
  simp only [List.length_cons, List.length_nil] at hF
  have hFl : F.length ≤ 5000000 := by omega
  have hdr : ∀ i, i = ks.length ∨ i = 9 → (ks.take 9).drop i = [] := fun i hi => List.drop_of_length_le (by rw [List.length_take]; omega)
  have key : ∀ i, i < ks.length → i < 9 → (ks.take 9).drop i = ks.getD i default :: (ks.take 9).drop (i + 1) := fun i h1 h2 => by
    rw [List.drop_eq_getElem_cons (by rw [List.length_take]; omega), List.getElem_take, List.getD_eq_getElem?_getD, List.getElem?_eq_getElem h1]; rfl
  have hmem : ∀ i, i < ks.length → ks.getD i default ∈ ks := fun i h1 => by
    rw [List.getD_eq_getElem?_getD, List.getElem?_eq_getElem h1]; exact List.getElem_mem _
  obtain ⟨ob, hob⟩ : ∃ ob : Bool, ob = obj := ⟨obj, rfl⟩
  cases obj
  all_goals
    simp only [cond_true, cond_false, opT, shT] at hm hFF ⊢
    refine CallsP.intro Tryd.func15 rfl (by show 3 ≤ 91; decide) ?_
    rintro X hX
    have hn : X.n = 91 := hX
    unfold Tryd.f15
    dsimp only
    rw [entry3]
    repeat' first
     | with_reducible refine Rl.go (by constructor <;> decide) ?_
     | ((with_reducible first | refine hK _ ?_ | refine hK.1 ?_ | refine hK.2 ?_); clear hK K)
     | ((with_reducible refine condS hK (fun hg => ?_) fun hg => ?_) <;> clear hK K <;> (try simp only [hgW] at hg) <;> try (exfalso; omega))
     | ((first | ((with_reducible first | refine Rk.go k15_VsMText (by constructor) ?_); intro K hK) | with_reducible refine Rr.go [] (by constructor) ?_ | (with_reducible refine guardP_split (fun hg => ?_) fun hg => ?_) <;> (try simp only [hg]) <;> (try simp only [hgW] at hg)) <;> simp -implicitDefEqProofs only [hm, ed, hn, go_sem, simprocAttr] <;> try (simp (disch := omega) only [wrW]; try simp -implicitDefEqProofs only [hm, ed, hn, go_sem, simprocAttr]))
     | with_reducible refine And.intro (by first | omega | (simp only [hgW]; omega)) ?_
     | (exfalso; omega)
    refine AWP.loopX [1, 2, 3, 7, 8, 24, 25, 26] [10] (fun x : Nat × List UInt8 => St.mk (lk [(1, .int .i64 ((d + 1 : Nat) : Int)), (2, .str gap), (3, .ptr 3 0), (7, .str x.2), (8, .str [shT ob]), (24, .sl none kn 3 (ks.map GV.av)), (25, .int .i64 (ks.length : Int)), (26, .int .i64 (x.1 : Int))])
      (lkB [(3, [.int .u8 (k.toNat : Int), .str t, .sl none kn 3 (ks.map GV.av)])]) (hasS []) (hasS []) (hasN []) (lkR []))
      (fun x => x.1 ≤ ks.length ∧ x.1 ≤ 9 ∧ x.2.length ≤ 1 + x.1 * 424822 ∧ kidsT (txtS gap d) ob gap x.1 x.2 ((ks.take 9).drop x.1) = F) (fun x => ks.length - x.1) (0, [opT ob]) ?_ ⟨Nat.zero_le _, Nat.zero_le _, ?_, (by rw [hob]; exact hFF)⟩ ?_
    · simp -implicitDefEqProofs only [shT, opT, hob, hn, go_sem, simprocAttr]
      try rfl
    · simp
    rintro ⟨i, out⟩ ⟨h1, h2, h3, h4⟩
    try dsimp only at h1 h2 h3 h4 ⊢
    rw [hob] at h4 ⊢
    try dsimp only [shT]
    have ei : (i : Int) + 1 = ((i + 1 : Nat) : Int) := by omega
    by_cases hik : i = ks.length
    · rw [hdr i (.inl hik), kidsT] at h4
      subst h4 hik
      repeat' first
       | with_reducible refine Rl.go (by constructor <;> decide) ?_
       | ((with_reducible first | refine hK _ ?_ | refine hK.1 ?_ | refine hK.2 ?_); clear hK K)
       | ((with_reducible refine condS hK (fun hg => ?_) fun hg => ?_) <;> clear hK K <;> (try simp only [hgW] at hg) <;> try (exfalso; omega))
       | ((first | ((with_reducible first | refine Rk.go k15_VsMText (by constructor) ?_); intro K hK) | with_reducible refine Rr.go [] (by constructor) ?_ | (with_reducible refine guardP_split (fun hg => ?_) fun hg => ?_) <;> (try simp only [hg]) <;> (try simp only [hgW] at hg)) <;> simp -implicitDefEqProofs only [hn, go_sem, simprocAttr] <;> try (simp (disch := omega) only [wrW]; try simp -implicitDefEqProofs only [hn, go_sem, simprocAttr]))
       | with_reducible refine And.intro (by first | omega | (simp only [hgW]; omega)) ?_
       | (exfalso; omega)
    obtain ⟨v, hv⟩ : ∃ v, ks.getD i default = v := ⟨_, rfl⟩
    have hvm := hmem i (by omega)
    rw [hv] at hvm
    have hvl := txtS_len hgp d v
    have ck := ih v hvm
    obtain ⟨T, hT⟩ : ∃ T, txtS gap d v = T := ⟨_, rfl⟩
    obtain ⟨k', t', kn', ks'⟩ := v
    rw [gav, hT] at ck
    rw [hT] at hvl
    by_cases hi9 : i = 9
    · rw [hdr i (.inr hi9), kidsT] at h4
      subst h4
      repeat' first
       | with_reducible refine Rl.go (by constructor <;> decide) ?_
       | ((with_reducible first | refine hK _ ?_ | refine hK.1 ?_ | refine hK.2 ?_); clear hK K)
       | ((with_reducible refine condS hK (fun hg => ?_) fun hg => ?_) <;> clear hK K <;> (try simp only [hgW] at hg) <;> try (exfalso; omega))
       | ((first | ((with_reducible first | refine Rk.go k15_VsMText (by constructor) ?_); intro K hK) | with_reducible refine Rr.go [] (by constructor) ?_ | (with_reducible refine guardP_split (fun hg => ?_) fun hg => ?_) <;> (try simp only [hg]) <;> (try simp only [hgW] at hg)) <;> simp -implicitDefEqProofs only [hv, gav, hn, go_sem, simprocAttr] <;> try (simp (disch := omega) only [wrW]; try simp -implicitDefEqProofs only [hv, gav, hn, go_sem, simprocAttr]))
       | with_reducible refine And.intro (by first | omega | (simp only [hgW]; omega)) ?_
       | (exfalso; omega)
    rw [key i (by omega) (by omega), hv, kidsT] at h4
    obtain ⟨c, hcc⟩ : ∃ c, UInt8.ofNat (97 + i) = c := ⟨_, rfl⟩
    have hct : (97 : Int) + (i : Int) = (c.toNat : Int) := by
      rw [← hcc, UInt8.toNat_ofNat']; omega
    have hcl := c.toNat_lt
    unfold rndT at h4
    simp only [cond_true, cond_false, hT, hcc] at h4
    rcases Nat.eq_zero_or_pos i with hi0 | hi0
    all_goals
      first | rw [if_pos hi0] at h4 | rw [if_neg (by omega)] at h4
      repeat' first
       | with_reducible refine Rl.go (by constructor <;> decide) ?_
       | ((with_reducible first | refine hK _ ?_ | refine hK.1 ?_ | refine hK.2 ?_); clear hK K)
       | ((with_reducible refine condS hK (fun hg => ?_) fun hg => ?_) <;> clear hK K <;> (try simp only [hgW] at hg) <;> try (exfalso; omega))
       | ((first | ((with_reducible first | refine Rk.go k15_VsMText (by constructor) ?_); intro K hK) | with_reducible refine Rr.go [] (by constructor) ?_ | (with_reducible refine guardP_split (fun hg => ?_) fun hg => ?_) <;> (try simp only [hg]) <;> (try simp only [hgW] at hg) | refine Rc.go ck (by constructor) ?_) <;> simp -implicitDefEqProofs only [hv, gav, ed, ei, hct, bytes_one, e93, e125, hn, go_sem, simprocAttr] <;> try (simp (disch := omega) only [wrW]; try simp -implicitDefEqProofs only [hv, gav, ed, ei, hct, bytes_one, e93, e125, hn, go_sem, simprocAttr]))
       | with_reducible refine And.intro (by first | omega | (simp only [hgW]; omega)) ?_
       | (exfalso; omega)
      refine ⟨(i + 1, _), ?_, ⟨by omega, by omega, ?_, h4⟩, by omega⟩
      · simp -implicitDefEqProofs only [ei, hob, shT, List.append_assoc, List.cons_append, List.nil_append, hn, go_sem, simprocAttr]
        try rfl
      · simp only [List.length_append, List.length_cons, List.length_nil]; omega
theorem txt_zero {gap : List UInt8} {k : UInt8} {t : List UInt8} {kn : Bool} {ks : List GV} (hm : k.toNat % 7 ≤ 1) : txtS gap 0 (.mk k t kn ks) = [91, 93] := if_pos hm
theorem txt_leaf {gap : List UInt8} {k : UInt8} {t : List UInt8} {kn : Bool} {ks : List GV} (hm : ¬ k.toNat % 7 ≤ 1) : ∀ d, txtS gap d (.mk k t kn ks) = leafT (k.toNat % 7) t
  | 0 => if_neg hm
  | d + 1 => if_neg hm
theorem txt_kids {gap : List UInt8} {k : UInt8} {t : List UInt8} {kn : Bool} {ks : List GV} {d : Nat} (hm : k.toNat % 7 ≤ 1) : txtS gap (d + 1) (.mk k t kn ks) =
    kidsT (txtS gap d) (decide (k.toNat % 7 = 1)) gap 0 [opT (decide (k.toNat % 7 = 1))] (ks.take 9) ++ gap ++ [shT (decide (k.toNat % 7 = 1))] := if_pos hm
theorem f15_ok (gap : List UInt8) (hg : gap.length ≤ 3) : ∀ (d : Nat) (v : GV), d ≤ 5 → GVok (d + 1) v → CallsP Tryd.prog 15 [v.av, .int .i64 (d : Int), .str gap] (.str (txtS gap d v))
  | 0, .mk k t kn ks, _, hv => by
    rw [gav]
    by_cases hm : k.toNat % 7 ≤ 1
    · rw [txt_zero hm]; exact zero15 gap k t kn ks hm
    · rw [txt_leaf hm]; exact leaf15 gap k t kn ks _ (by omega) hv.1
  | d + 1, .mk k t kn ks, hd, hv => by
    rw [gav]
    by_cases hm : k.toNat % 7 ≤ 1
    · rw [txt_kids hm]
      refine kids15 gap hg k t kn ks hv.2.1 d (by omega) (decide (k.toNat % 7 = 1)) ?_ fun v hm' => f15_ok gap hg d v (by omega) (hv.2.2 v hm')
      by_cases h1 : k.toNat % 7 = 1
      · rw [show decide (k.toNat % 7 = 1) = true from decide_eq_true h1]; simp only [cond_true]; omega
      · rw [show decide (k.toNat % 7 = 1) = false from decide_eq_false h1]; simp only [cond_false]; omega
    · rw [txt_leaf hm]; exact leaf15 gap k t kn ks _ (by omega) hv.1
end Go.Proofs.YtfemncfhiihckaaDoor
