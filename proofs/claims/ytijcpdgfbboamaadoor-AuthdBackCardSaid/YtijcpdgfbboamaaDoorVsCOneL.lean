/- What is read is written as the bytes that were read: plain law, no program in sight. -/
import Derived.Test.YtijcpdgfbboamaaDoorVsCEncT
open Go Go.VS
namespace Go.Proofs.YtijcpdgfbboamaaDoor
set_option linter.unusedVariables false
theorem be_cons' (c : UInt8) (l : List UInt8) : be (c :: l) = c.toNat * 256 ^ l.length + be l := by
  have go : ∀ (l : List UInt8) (a : Nat), l.foldl (fun n c => n * 256 + c.toNat) a = a * 256 ^ l.length + l.foldl (fun n c => n * 256 + c.toNat) 0 := by
    intro l
    induction l with
    | nil => intro a; simp
    | cons x l ih =>
      intro a
      simp only [List.foldl_cons, List.length_cons]
      rw [ih (a * 256 + x.toNat), ih (0 * 256 + x.toNat), Nat.pow_succ, Nat.add_mul, Nat.zero_mul, Nat.zero_add, Nat.mul_assoc, Nat.mul_comm 256, Nat.add_assoc]
  unfold be
  rw [List.foldl_cons, go]
  simp
theorem nbs_mod (a n : Nat) : ∀ k j, k ≤ j → nbs (a * 256 ^ j + n) k = nbs n k
  | 0, _, _ => rfl
  | k + 1, j, h => by
    rw [nbs, nbs, nbs_mod a n k j (by omega)]
    congr 1
    have e : 256 ^ j = 256 ^ k * 256 ^ (j - k) := by rw [← Nat.pow_add]; congr 1; omega
    have e2 : 256 ^ (j - k) = 256 * 256 ^ (j - k - 1) := by rw [Nat.mul_comm, ← Nat.pow_succ]; congr 1; omega
    have e3 : (a * 256 ^ j + n) / 256 ^ k = n / 256 ^ k + a * 256 ^ (j - k) := by
      rw [e, Nat.mul_comm a, Nat.mul_assoc, Nat.mul_add_div (Nat.pow_pos (by decide)), Nat.add_comm, Nat.mul_comm a]
    rw [e3, e2]
    apply UInt8.toNat_inj.1
    rw [UInt8.toNat_ofNat', UInt8.toNat_ofNat', Nat.mul_comm a, Nat.mul_assoc]
    exact Nat.add_mul_mod_self_left _ _ _
theorem nbs_be : ∀ l : List UInt8, nbs (be l) l.length = l
  | [] => rfl
  | c :: l => by
    have h := be_lt l
    rw [be_cons', List.length_cons, nbs, nbs_mod _ _ _ _ (Nat.le_refl _), nbs_be l]
    congr 1
    rw [Nat.mul_comm, Nat.mul_add_div (Nat.pow_pos (by decide)), Nat.div_eq_of_lt h, Nat.add_zero]
    exact UInt8.ofNat_toNat
/-- A head that is read is written as the bytes that were read. -/
theorem headS_hd (s : RS) (h : (headS s).2.2.err = 0) (h7 : (headS s).1 ≠ 7) : s.b = hdW (headS s).1 (headS s).2.1 ++ (headS s).2.2.b := by
  have hne := headS_ne s h
  have hl0 : s.b.length ≠ 0 := fun e => hne (List.length_eq_zero_iff.1 e)
  obtain ⟨c, r, hb⟩ : ∃ c r, s.b = c :: r := by
    cases e : s.b with
    | nil => exact absurd e hne
    | cons c r => exact ⟨c, r, rfl⟩
  have hc := c.toNat_lt
  have e1 : s.b.getD 0 default = c := by rw [hb]; rfl
  have e2 : s.b.drop 1 = r := by rw [hb]; rfl
  unfold headS at h h7 ⊢
  rw [if_neg hl0] at h h7 ⊢
  simp only [e1, e2] at h h7 ⊢
  by_cases q1 : c.toNat % 32 < 24 ∨ c.toNat / 32 = 7
  · rw [if_pos q1] at h7 ⊢
    simp only at h7 ⊢
    have q2 : c.toNat % 32 < 24 := q1.resolve_right h7
    have e3 : 32 * (c.toNat / 32) + c.toNat % 32 = c.toNat := Nat.div_add_mod _ _
    unfold hdW
    rw [if_pos q2, hb, e3, UInt8.ofNat_toNat]
    rfl
  rw [if_neg q1] at h h7 ⊢
  by_cases q2 : 27 < c.toNat % 32 ∨ r.length < 2 ^ (c.toNat % 32 - 24)
  · rw [if_pos q2] at h
    simp only [RS.fail_err] at h
    split at h
    · cases h
    · rename_i q; exact absurd h q
  rw [if_neg q2] at h h7 ⊢
  simp only at h h7 ⊢
  obtain ⟨z, hz⟩ : ∃ z, c.toNat % 32 - 24 = z := ⟨_, rfl⟩
  have hz3 : z ≤ 3 := by omega
  have ecl : c.toNat = 32 * (c.toNat / 32) + 24 + z := by omega
  rw [hz] at q2 h ⊢
  have hlz : 2 ^ z ≤ r.length := by omega
  obtain ⟨n, hn⟩ : ∃ n, be (r.take (2 ^ z)) = n := ⟨_, rfl⟩
  have hnl := be_lt (r.take (2 ^ z))
  have hll : (r.take (2 ^ z)).length = 2 ^ z := by rw [List.length_take]; omega
  have hnn := nbs_be (r.take (2 ^ z))
  rw [hll, hn] at hnn
  rw [hll, hn] at hnl
  rw [hn] at h ⊢
  by_cases q3 : (2 ^ z = 1 ∧ n < 24) ∨ (1 < 2 ^ z ∧ n / 2 ^ (4 * 2 ^ z) = 0)
  · rw [if_pos q3] at h
    simp only [RS.fail_err] at h
    split at h
    · cases h
    · rename_i q; exact absurd h q
  rw [if_neg q3]
  simp only
  have hs : 24 ≤ n ∧ sizeN n = z := by
    unfold sizeN
    rcases (show z = 0 ∨ z = 1 ∨ z = 2 ∨ z = 3 by omega) with rfl | rfl | rfl | rfl
    · have : 24 ≤ n := Nat.le_of_not_lt fun hh => q3 (Or.inl ⟨rfl, hh⟩)
      simp only [Nat.reducePow] at hnl
      exact ⟨this, if_pos (by omega)⟩
    · simp only [Nat.reducePow, Nat.reduceMul] at hnl q3
      have : 256 ≤ n := by omega
      exact ⟨by omega, by rw [if_neg (by omega), if_pos (by omega)]⟩
    · simp only [Nat.reducePow, Nat.reduceMul] at hnl q3
      have : 65536 ≤ n := by omega
      exact ⟨by omega, by rw [if_neg (by omega), if_neg (by omega), if_pos (by omega)]⟩
    · simp only [Nat.reducePow, Nat.reduceMul] at hnl q3
      have : 4294967296 ≤ n := by omega
      exact ⟨by omega, by rw [if_neg (by omega), if_neg (by omega), if_neg (by omega)]⟩
  unfold hdW
  rw [if_neg (by omega), hs.2, hnn, hb, ← ecl, UInt8.ofNat_toNat]
  simp
theorem headS_7 (s : RS) (h : (headS s).2.2.err = 0) (h7 : (headS s).1 = 7) : s.b = UInt8.ofNat (224 + (headS s).2.1) :: (headS s).2.2.b := by
  have hne := headS_ne s h
  have hl0 : s.b.length ≠ 0 := fun e => hne (List.length_eq_zero_iff.1 e)
  obtain ⟨c, r, hb⟩ : ∃ c r, s.b = c :: r := by
    cases e : s.b with
    | nil => exact absurd e hne
    | cons c r => exact ⟨c, r, rfl⟩
  have e1 : s.b.getD 0 default = c := by rw [hb]; rfl
  have e2 : s.b.drop 1 = r := by rw [hb]; rfl
  have hc := c.toNat_lt
  unfold headS at h7 ⊢
  rw [if_neg hl0] at h7 ⊢
  simp only [e1, e2] at h7 ⊢
  have q1 : c.toNat / 32 = 7 := by
    by_cases q1 : c.toNat % 32 < 24 ∨ c.toNat / 32 = 7
    · rw [if_pos q1] at h7; exact h7
    rw [if_neg q1] at h7
    by_cases q2 : 27 < c.toNat % 32 ∨ r.length < 2 ^ (c.toNat % 32 - 24)
    · rw [if_pos q2] at h7; cases h7
    rw [if_neg q2] at h7
    exact h7
  rw [if_pos (Or.inr q1)]
  simp only
  rw [show 224 + c.toNat % 32 = c.toNat by omega, UInt8.ofNat_toNat, hb]
/-- What was read as an item is written as it was read. -/
def Back (itR : RS → CI × RS) (itW : CI → WS → Nat × WS) : Prop := ∀ s : RS, (itR s).2.err = 0 →
  ∃ l, s.b = l ++ (itR s).2.b ∧ ∀ w : WS, w.items = s.items → itW (itR s).1 w = (0, ⟨w.b ++ l, (itR s).2.items⟩)
section
variable {itR : RS → CI × RS} {itW : CI → WS → Nat × WS} {m : Nat} (K : Keeps itR m) (B : Back itR itW)
include B
theorem arr_back : ∀ (n : Nat) (s : RS) (ks : List CI), (arrS itR n s ks).2.err = 0 → ∃ kids l, (arrS itR n s ks).1 = .mk 5 0 true [] (ks ++ kids).isEmpty (ks ++ kids) ∧ kids.length = n ∧ s.b = l ++ (arrS itR n s ks).2.b ∧
      ∀ w : WS, w.items = s.items → kidsW itW badO false (ks ++ kids) n ks.length w = (0, ⟨w.b ++ l, (arrS itR n s ks).2.items⟩)
  | 0, s, ks, h => ⟨[], [], by simp [arrS], rfl, rfl, fun w hw => by simp [kidsW, arrS, ← hw]⟩
  | n + 1, s, ks, h => by
    simp only [arrS] at h ⊢
    by_cases he : (itR s).2.err ≠ 0
    · rw [if_pos he] at h; exact absurd h he
    rw [if_neg he] at h ⊢
    have he : (itR s).2.err = 0 := by simpa using he
    obtain ⟨l1, b1, w1⟩ := B s he
    obtain ⟨kids, l2, x2, n2, b2, w2⟩ := arr_back n _ _ h
    refine ⟨(itR s).1 :: kids, l1 ++ l2, by rw [x2]; simp, by simp [n2], by rw [List.append_assoc, ← b2]; exact b1, fun w hw => ?_⟩
    have hg : (ks ++ (itR s).1 :: kids).getD ks.length default = (itR s).1 := by simp [List.getD_eq_getElem?_getD]
    simp only [kidsW, hg]
    rw [if_neg (by simp), if_neg (by simp), w1 w hw, if_neg (by simp)]
    have := w2 ⟨w.b ++ l1, (itR s).2.items⟩ rfl
    rw [List.length_append, List.append_assoc] at this
    simp only [List.length_cons, List.length_nil, List.cons_append, List.nil_append] at this
    rw [this]
    simp
include K
theorem pair_back : ∀ (n : Nat) (s : RS) (ks : List CI), s.err = 0 → ks.length % 2 = 0 → (pairS itR n s ks).2.err = 0 → ∃ kids l, (pairS itR n s ks).1 = .mk 6 0 true [] (ks ++ kids).isEmpty (ks ++ kids) ∧ kids.length = 2 * n ∧ s.b = l ++ (pairS itR n s ks).2.b ∧
      ∀ w : WS, w.items = s.items → kidsW itW badO true (ks ++ kids) (2 * n) ks.length w = (0, ⟨w.b ++ l, (pairS itR n s ks).2.items⟩)
  | 0, s, ks, h0, hk, h => ⟨[], [], by simp [pairS], rfl, rfl, fun w hw => by simp [kidsW, pairS, ← hw]⟩
  | n + 1, s, ks, h0, hk, h => by
    simp only [pairS] at h ⊢
    obtain ⟨q1, q2, q3, q4⟩ := keyS_b (itR s).1 (itR s).2 ks
    by_cases he : (itR (keyS (itR s).1 (itR s).2 ks)).2.err ≠ 0
    · rw [if_pos he] at h; exact absurd h he
    rw [if_neg he] at h ⊢
    have he : (itR (keyS (itR s).1 (itR s).2 ks)).2.err = 0 := by simpa using he
    have hk0 := (K.good _ he).1
    have hs0 := q4 hk0
    have hpl : plainS (itR s).1 = true := by
      cases e : plainS (itR s).1 with
      | true => rfl
      | false =>
        rw [keyS_plain hs0 e, RS.fail_err, if_pos hs0] at hk0
        cases hk0
    have hod : ¬ (ks ≠ [] ∧ 0 ≤ orderS (ks.getD (ks.length - 2) default) (itR s).1) := by
      intro hc
      rw [keyS_order hs0 hpl hc, RS.fail_err, if_pos hs0] at hk0
      cases hk0
    have hkey : keyS (itR s).1 (itR s).2 ks = (itR s).2 := keyS_good hpl hod
    rw [hkey] at he h ⊢
    obtain ⟨l1, b1, w1⟩ := B s hs0
    obtain ⟨l2, b2, w2⟩ := B (itR s).2 he
    obtain ⟨kids, l3, x3, n3, b3, w3⟩ := pair_back n _ _ he (by simp; omega) h
    refine ⟨(itR s).1 :: (itR (itR s).2).1 :: kids, l1 ++ l2 ++ l3, by rw [x3]; simp, by simp [n3]; omega, by rw [List.append_assoc, ← b3, List.append_assoc, ← b2]; exact b1, fun w hw => ?_⟩
    have hg : (ks ++ (itR s).1 :: (itR (itR s).2).1 :: kids).getD ks.length default = (itR s).1 := by simp [List.getD_eq_getElem?_getD]
    have hg1 : (ks ++ (itR s).1 :: (itR (itR s).2).1 :: kids).getD (ks.length + 1) default = (itR (itR s).2).1 := by
      simp [List.getD_eq_getElem?_getD]
    have e2 : 2 * (n + 1) = (2 * n + 1) + 1 := by omega
    rw [e2]
    simp only [kidsW, hg, hg1]
    rw [if_neg (by rw [hpl]; simp)]
    rw [if_neg (by
      rintro ⟨-, -, a2, a3⟩
      have hne : ks ≠ [] := by intro e; rw [e] at a2; simp at a2
      have hg2 : (ks ++ (itR s).1 :: (itR (itR s).2).1 :: kids).getD (ks.length - 2) default = ks.getD (ks.length - 2) default := by
        rw [List.getD_eq_getElem?_getD, List.getD_eq_getElem?_getD, List.getElem?_append_left (by have := List.length_pos_iff.2 hne; omega)]
      rw [hg2] at a3
      exact hod ⟨hne, by simpa [badO] using a3⟩)]
    rw [w1 w hw, if_neg (by simp)]
    simp only
    rw [if_neg (by omega), if_neg (by omega), w2 ⟨w.b ++ l1, (itR s).2.items⟩ rfl, if_neg (by simp)]
    have := w3 ⟨w.b ++ l1 ++ l2, (itR (itR s).2).2.items⟩ rfl
    rw [List.length_append, List.append_assoc] at this
    simp only [List.length_cons, List.length_nil, List.cons_append, List.nil_append] at this
    simp only
    rw [show ks.length + 1 + 1 = ks.length + (0 + 1 + 1) by omega, this]
    simp
end
theorem itemW_arr (valid : List UInt8 → Bool) (bad : CI → CI → Bool) (d : Nat) (kn : Bool) (kids : List CI) (w : WS) (h : w.items + 1 ≤ 512) :
    itemW valid bad (d + 1) (.mk 5 0 true [] kn kids) w = kidsW (itemW valid bad d) bad false kids kids.length 0 (WS.put { w with items := w.items + 1 } (hdW 4 kids.length)) := by
  unfold itemW
  simp only
  rw [if_neg (by omega)]
  rfl
theorem itemW_map (valid : List UInt8 → Bool) (bad : CI → CI → Bool) (d : Nat) (kn : Bool) (kids : List CI) (w : WS) (h : w.items + 1 ≤ 512) (he : kids.length % 2 = 0) :
    itemW valid bad (d + 1) (.mk 6 0 true [] kn kids) w = kidsW (itemW valid bad d) bad true kids kids.length 0 (WS.put { w with items := w.items + 1 } (hdW 5 (kids.length / 2))) := by
  unfold itemW
  simp only
  have e : ¬ ((CI.mk 6 0 true [] kn kids).k = 6 ∧ (CI.mk 6 0 true [] kn kids).ks.length % 2 = 1) := fun x => by
    have := x.2
    simp only [CI.ks] at this
    omega
  rw [if_neg (by omega), if_neg (by simp [CI.k]), if_neg (by simp [CI.k]), if_neg (by simp [CI.k]), if_pos (by simp [CI.k]), if_neg e]
  rfl
theorem item_back (valid : List UInt8 → Bool) : ∀ d, Back (itemS valid d) (itemW valid badO d) := by
  intro d s h
  obtain ⟨x, hx⟩ : ∃ x, itemS valid d s = x := ⟨_, rfl⟩
  rw [hx] at h ⊢
  rw [itemS_eq] at hx
  have hi := headS_items { s with items := s.items + 1 }
  by_cases c1 : 512 < s.items + 1
  · rw [if_pos c1] at hx
    subst hx
    simp only [RS.fail_err] at h
    split at h
    · cases h
    · rename_i q; exact absurd h q
  rw [if_neg c1] at hx
  by_cases c2 : (headS { s with items := s.items + 1 }).2.2.err ≠ 0
  · rw [if_pos c2] at hx
    subst hx
    exact absurd h c2
  rw [if_neg c2] at hx
  have c2z : (headS { s with items := s.items + 1 }).2.2.err = 0 := by simpa using c2
  clear c2
  have hd := headS_hd { s with items := s.items + 1 } c2z
  have hd7 := headS_7 { s with items := s.items + 1 } c2z
  simp only at hd hd7
  generalize headS { s with items := s.items + 1 } = H at *
  obtain ⟨k, n, s2⟩ := H
  simp only at hi c2z hd hd7 hx
  unfold bodyS at hx
  by_cases k0 : k = 0
  · rw [if_pos k0] at hx
    subst hx
    subst k0
    refine ⟨hdW 0 n, hd (by decide), fun w hw => ?_⟩
    unfold itemW
    simp only
    rw [if_neg (by omega), if_pos (by simp [CI.k])]
    simp only [WS.put, CI.k, CI.n, hw, hi]
  rw [if_neg k0] at hx
  by_cases k1 : k = 1
  · rw [if_pos k1] at hx
    subst hx
    subst k1
    refine ⟨hdW 1 n, hd (by decide), fun w hw => ?_⟩
    unfold itemW
    simp only
    rw [if_neg (by omega), if_pos (by simp [CI.k])]
    simp only [WS.put, CI.k, CI.n, hw, hi]
  rw [if_neg k1] at hx
  by_cases k2 : k = 2 ∨ k = 3
  · rw [if_pos k2] at hx
    have hd := hd (by omega)
    unfold bytesS at hx
    by_cases hl : s2.b.length < n
    · rw [if_pos hl] at hx
      subst hx
      simp only [RS.fail_err, if_pos c2z] at h
      cases h
    rw [if_neg hl] at hx
    simp only at hx
    have hln : (s2.b.take n).length = n := by rw [List.length_take]; omega
    by_cases k2' : k = 2
    · rw [if_pos k2'] at hx
      subst hx
      subst k2'
      refine ⟨hdW 2 n ++ s2.b.take n, by rw [List.append_assoc, List.take_append_drop]; exact hd, fun w hw => ?_⟩
      unfold itemW
      simp only
      rw [if_neg (by omega), if_neg (by simp [CI.k]), if_pos (by simp [CI.k]), if_neg (by simp [CI.k])]
      simp only [WS.put, CI.k, CI.b, hln, hw, hi, List.append_assoc]
    · rw [if_neg k2'] at hx
      obtain rfl : k = 3 := by omega
      by_cases hv : valid (s2.b.take n) = false
      · rw [if_pos hv] at hx
        subst hx
        simp [RS.fail_err, c2z] at h
      rw [if_neg hv] at hx
      subst hx
      refine ⟨hdW 3 n ++ s2.b.take n, by rw [List.append_assoc, List.take_append_drop]; exact hd, fun w hw => ?_⟩
      unfold itemW
      simp only
      rw [if_neg (by omega), if_neg (by simp [CI.k]), if_pos (by simp [CI.k]), if_neg (fun a => hv a.2)]
      simp only [WS.put, CI.k, CI.b, hln, hw, hi, List.append_assoc]
  rw [if_neg k2] at hx
  by_cases k4 : k = 4 ∨ k = 5
  · rw [if_pos k4] at hx
    have hd := hd (by omega)
    cases d with
    | zero =>
      subst hx
      simp only [RS.fail_err, if_pos c2z] at h
      cases h
    | succ d =>
      have K := itemS_keeps valid d
      simp only at hx
      by_cases k4' : k = 4
      · rw [if_pos k4'] at hx
        subst hx
        subst k4'
        obtain ⟨kids, l, x2, n2, b2, w2⟩ := arr_back (item_back valid d) n s2 [] h
        refine ⟨hdW 4 n ++ l, by rw [List.append_assoc, ← b2]; exact hd, fun w hw => ?_⟩
        rw [x2, itemW_arr _ _ _ _ _ _ (by omega)]
        have := w2 (WS.put { w with items := w.items + 1 } (hdW 4 n)) (by show w.items + 1 = s2.items; omega)
        simp only [List.nil_append, n2, List.length_nil] at this ⊢
        rw [this]
        simp only [WS.put, List.append_assoc]
      · rw [if_neg k4'] at hx
        subst hx
        obtain rfl : k = 5 := by omega
        obtain ⟨kids, l, x2, n2, b2, w2⟩ := pair_back K (item_back valid d) n s2 [] c2z rfl h
        refine ⟨hdW 5 n ++ l, by rw [List.append_assoc, ← b2]; exact hd, fun w hw => ?_⟩
        rw [x2, itemW_map _ _ _ _ _ _ (by omega) (by simp only [List.nil_append]; omega)]
        have := w2 (WS.put { w with items := w.items + 1 } (hdW 5 n)) (by show w.items + 1 = s2.items; omega)
        simp only [List.nil_append, n2, List.length_nil] at this ⊢
        rw [show 2 * n / 2 = n by omega, this]
        simp only [WS.put, List.append_assoc]
  rw [if_neg k4] at hx
  by_cases k7 : k = 7 ∧ 20 ≤ n ∧ n ≤ 22
  · rw [if_pos k7] at hx
    subst hx
    refine ⟨[UInt8.ofNat (224 + n)], hd7 k7.1, fun w hw => ?_⟩
    unfold itemW
    simp only
    rw [if_neg (by omega), if_neg (by simp only [CI.k]; omega), if_neg (by simp only [CI.k]; omega), if_pos (by simp only [CI.k]; omega)]
    simp only [WS.put, hw, hi, CI.k]
    rw [show 244 + (7 + (n - 20) - 7) = 224 + n by omega]
  · rw [if_neg k7] at hx
    subst hx
    simp only [RS.fail_err, if_pos c2z] at h
    cases h
theorem Fit.zero (d : Nat) : Fit d .zero := Fit.leaf d rfl ⟨by decide, by decide, by decide, by decide, fun _ => rfl⟩
section
variable {it : RS → CI × RS} {m d : Nat} (K : Keeps it m) (hw : ∀ s : RS, s.b.length ≤ 100000 → Fit d (it s).1)
include K hw
theorem arr_fit : ∀ (n : Nat) (s : RS) (ks : List CI), s.items ≤ 512 → s.b.length ≤ 100000 → ks.length ≤ s.items → (∀ y ∈ ks, Fit d y) → Fit (d + 1) (arrS it n s ks).1
  | 0, s, ks, h1, hb, h2, h3 => ⟨⟨by show 5 < 256; decide, by show 0 < 18446744073709551616; decide, by show 0 ≤ 100000; decide, by show ks.length ≤ 100000; omega, fun _ => rfl⟩, h3⟩
  | n + 1, s, ks, h1, hb, h2, h3 => by
    simp only [arrS]
    split
    · exact Fit.zero _
    · rename_i he
      have he : (it s).2.err = 0 := by simpa using he
      have h4 := K.more s
      have h5 := K.len s
      refine arr_fit n _ _ (K.good s he).2 (by omega) (by rw [List.length_append]; simp only [List.length_cons, List.length_nil]; omega) (fun y hy => ?_)
      rcases List.mem_append.1 hy with hy | hy
      · exact h3 y hy
      · rw [List.mem_singleton] at hy; subst hy; exact hw s hb
theorem pair_fit : ∀ (n : Nat) (s : RS) (ks : List CI), s.items ≤ 512 → s.b.length ≤ 100000 → ks.length ≤ s.items → (∀ y ∈ ks, Fit d y) → Fit (d + 1) (pairS it n s ks).1
  | 0, s, ks, h1, hb, h2, h3 => ⟨⟨by show 6 < 256; decide, by show 0 < 18446744073709551616; decide, by show 0 ≤ 100000; decide, by show ks.length ≤ 100000; omega, fun _ => rfl⟩, h3⟩
  | n + 1, s, ks, h1, hb, h2, h3 => by
    obtain ⟨q1, q2, q3, q4⟩ := keyS_b (it s).1 (it s).2 ks
    simp only [pairS]
    split
    · exact Fit.zero _
    · rename_i he
      have he : (it (keyS (it s).1 (it s).2 ks)).2.err = 0 := by simpa using he
      have h4 := K.more s
      have h5 := K.more (keyS (it s).1 (it s).2 ks)
      have h6 := K.len s
      have h7 := K.len (keyS (it s).1 (it s).2 ks)
      rw [q2] at h5
      rw [q1] at h7
      refine pair_fit n _ _ (K.good _ he).2 (by omega) (by rw [List.length_append]; simp only [List.length_cons, List.length_nil]; omega) (fun y hy => ?_)
      rcases List.mem_append.1 hy with hy | hy
      · exact h3 y hy
      · simp only [List.mem_cons, List.not_mem_nil, or_false] at hy
        rcases hy with rfl | rfl
        · exact hw s hb
        · exact hw _ (by rw [q1]; omega)
end
theorem item_fit (valid : List UInt8 → Bool) : ∀ (d : Nat) (s : RS), s.b.length ≤ 100000 → Fit d (itemS valid d s).1 := by
  intro d s hb
  have hi := headS_items { s with items := s.items + 1 }
  have hl := headS_len { s with items := s.items + 1 }
  obtain ⟨hk, hn⟩ := headS_bd { s with items := s.items + 1 }
  rw [itemS_eq]
  split
  · exact Fit.zero _
  split
  · exact Fit.zero _
  rename_i h1 h2
  simp only at hl hi
  generalize headS { s with items := s.items + 1 } = H at *
  obtain ⟨k, n, s2⟩ := H
  simp only at hk hn hl hi ⊢
  unfold bodyS
  split
  · exact Fit.leaf _ rfl ⟨by show 1 < 256; decide, hn, by show 0 ≤ 100000; decide, by show 0 ≤ 100000; decide, fun _ => rfl⟩
  split
  · exact Fit.leaf _ rfl ⟨by show 2 < 256; decide, hn, by show 0 ≤ 100000; decide, by show 0 ≤ 100000; decide, fun _ => rfl⟩
  split
  · unfold bytesS
    split
    · exact Fit.zero _
    simp only
    have ht : (s2.b.take n).length ≤ 100000 := by rw [List.length_take]; omega
    split
    · exact Fit.leaf _ rfl ⟨by show 3 < 256; decide, by show 0 < 18446744073709551616; decide, ht, by show 0 ≤ 100000; decide, fun h => by cases h⟩
    split
    · exact Fit.zero _
    · exact Fit.leaf _ rfl ⟨by show 4 < 256; decide, by show 0 < 18446744073709551616; decide, ht, by show 0 ≤ 100000; decide, fun h => by cases h⟩
  split
  · cases d with
    | zero => exact Fit.zero _
    | succ d =>
      simp only
      split
      · exact arr_fit (itemS_keeps valid d) (item_fit valid d) n s2 [] (by omega) (by omega) (Nat.zero_le _) (fun y hy => by cases hy)
      · exact pair_fit (itemS_keeps valid d) (item_fit valid d) n s2 [] (by omega) (by omega) (Nat.zero_le _) (fun y hy => by cases hy)
  split
  · exact Fit.leaf _ rfl ⟨by show 7 + (n - 20) < 256; omega, by show 0 < 18446744073709551616; decide, by show 0 ≤ 100000; decide, by show 0 ≤ 100000; decide, fun _ => rfl⟩
  · exact Fit.zero _
end Go.Proofs.YtijcpdgfbboamaaDoor
