/- What reading an item keeps: how many bytes there are left at most, how many items there have been. -/
import Derived.Test.YtijcpdgfbboamaaDoorVsCSpec
open Go Go.VS
namespace Go.Proofs.YtijcpdgfbboamaaDoor
set_option linter.unusedVariables false
theorem RS.fail_b (s : RS) (e : Nat) : (s.fail e).b = s.b := by unfold RS.fail; split <;> rfl
theorem RS.fail_items (s : RS) (e : Nat) : (s.fail e).items = s.items := by unfold RS.fail; split <;> rfl
theorem RS.fail_err (s : RS) (e : Nat) : (s.fail e).err = if s.err = 0 then e else s.err := by unfold RS.fail; split <;> rfl
theorem headS_len (s : RS) : (headS s).2.2.b.length ≤ s.b.length := by
  unfold headS
  simp only
  (repeat' split) <;> simp only [RS.fail_b, List.length_drop] <;> first | exact Nat.le_refl _ | exact Nat.sub_le _ _ | exact Nat.le_trans (Nat.sub_le _ _) (Nat.sub_le _ _)
theorem headS_items (s : RS) : (headS s).2.2.items = s.items := by
  unfold headS
  simp only
  (repeat' split) <;> simp only [RS.fail_items]
theorem headS_err (s : RS) (h : s.err ≠ 0) : (headS s).2.2.err = s.err := by
  unfold headS
  simp only
  (repeat' split) <;> simp only [RS.fail_err, if_neg h]
theorem headS_ne (s : RS) (h : (headS s).2.2.err = 0) : s.b ≠ [] := by
  intro e
  unfold headS at h
  rw [e] at h
  simp only [List.length_nil, if_true, RS.fail_err] at h
  split at h
  · cases h
  · rename_i h2; exact h2 h
/-- The kind is below 8, the number below 2 to the 64th. -/
theorem headS_bd (s : RS) : (headS s).1 < 8 ∧ (headS s).2.1 < 18446744073709551616 := by
  unfold headS
  simp only
  have hc := (s.b.getD 0 default).toNat_lt
  split
  · simp
  · split
    · simp only; omega
    · split
      · simp
      · rename_i h1 h2 h3
        simp only
        refine ⟨by omega, ?_⟩
        have hb := be_lt ((s.b.drop 1).take (2 ^ ((s.b.getD 0 default).toNat % 32 - 24)))
        refine Nat.lt_of_lt_of_le hb ?_
        rw [show (18446744073709551616 : Nat) = 256 ^ 8 from rfl]
        refine Nat.pow_le_pow_right (by decide) ?_
        rw [List.length_take]
        have h4 : (s.b.getD 0 default).toNat % 32 - 24 ≤ 3 := by omega
        have h5 : 2 ^ ((s.b.getD 0 default).toNat % 32 - 24) ≤ 2 ^ 3 := Nat.pow_le_pow_right (by decide) h4
        omega

/-- What a way to read an item keeps. -/
structure Keeps (it : RS → CI × RS) (m : Nat) : Prop where
  len : ∀ s, (it s).2.b.length ≤ s.b.length
  more : ∀ s, s.items + 1 ≤ (it s).2.items
  good : ∀ s, (it s).2.err = 0 → s.err = 0 ∧ (it s).2.items ≤ 512
  bad : ∀ s, s.err ≠ 0 → (it s).2.err = s.err ∧ (it s).2.items = s.items + 1
  most : ∀ s, s.err = 0 → s.items ≤ 512 → (it s).2.items ≤ 513 + m

section
variable {it : RS → CI × RS} {m : Nat} (K : Keeps it m)
include K
theorem arrS_keeps : ∀ (n : Nat) (s : RS) (ks : List CI), s.err = 0 → s.items ≤ 512 → (arrS it n s ks).2.b.length ≤ s.b.length ∧ s.items ≤ (arrS it n s ks).2.items ∧ ((arrS it n s ks).2.err = 0 → (arrS it n s ks).2.items ≤ 512) ∧ (arrS it n s ks).2.items ≤ 513 + m
  | 0, s, ks, h, h2 => by simp only [arrS]; exact ⟨Nat.le_refl _, Nat.le_refl _, fun _ => h2, by omega⟩
  | n + 1, s, ks, h, h2 => by
    have h3 := K.len s
    have h4 := K.more s
    have h5 := K.most s h h2
    simp only [arrS]
    split
    · rename_i he
      exact ⟨h3, by simp only; omega, fun e => absurd e he, h5⟩
    · rename_i he
      have he : (it s).2.err = 0 := by simpa using he
      obtain ⟨k1, k2, k3, k4⟩ := arrS_keeps n (it s).2 (ks ++ [(it s).1]) he (K.good s he).2
      exact ⟨by omega, by omega, k3, k4⟩
omit K in
theorem keyS_b (k : CI) (s : RS) (ks : List CI) : (keyS k s ks).b = s.b ∧ (keyS k s ks).items = s.items ∧ (s.err ≠ 0 → keyS k s ks = s) ∧ ((keyS k s ks).err = 0 → s.err = 0) := by
  unfold keyS
  simp only
  by_cases h1 : s.err = 0 ∧ plainS k = false
  · rw [if_pos h1]
    have h2 : (s.fail 20).err = 20 := by rw [RS.fail_err, if_pos h1.1]
    rw [if_neg (by rw [h2]; simp)]
    exact ⟨RS.fail_b .., RS.fail_items .., fun h => absurd h1.1 h, fun h => h1.1⟩
  · rw [if_neg h1]
    split
    · rename_i h2
      exact ⟨RS.fail_b .., RS.fail_items .., fun h => absurd h2.1 h, fun h => h2.1⟩
    · exact ⟨rfl, rfl, fun _ => rfl, id⟩
theorem pairS_keeps : ∀ (n : Nat) (s : RS) (ks : List CI), s.err = 0 → s.items ≤ 512 → (pairS it n s ks).2.b.length ≤ s.b.length ∧ s.items ≤ (pairS it n s ks).2.items ∧ ((pairS it n s ks).2.err = 0 → (pairS it n s ks).2.items ≤ 512) ∧ (pairS it n s ks).2.items ≤ 514 + m
  | 0, s, ks, h, h2 => by simp only [pairS]; exact ⟨Nat.le_refl _, Nat.le_refl _, fun _ => h2, by omega⟩
  | n + 1, s, ks, h, h2 => by
    have h3 := K.len s
    have h4 := K.more s
    have h5 := K.most s h h2
    obtain ⟨q1, q2, q3, q4⟩ := keyS_b (it s).1 (it s).2 ks
    have h6 := K.len (keyS (it s).1 (it s).2 ks)
    have h7 := K.more (keyS (it s).1 (it s).2 ks)
    rw [q1] at h6
    rw [q2] at h7
    have h8 : (it (keyS (it s).1 (it s).2 ks)).2.items ≤ 514 + m := by
      by_cases he : (keyS (it s).1 (it s).2 ks).err = 0
      · have he2 := q4 he
        have := K.most (keyS (it s).1 (it s).2 ks) he (by rw [q2]; exact (K.good s he2).2)
        omega
      · have := (K.bad _ he).2
        rw [this, q2]; omega
    simp only [pairS]
    split
    · rename_i he
      exact ⟨by simp only; omega, by simp only; omega, fun e => absurd e he, h8⟩
    · rename_i he
      have he : (it (keyS (it s).1 (it s).2 ks)).2.err = 0 := by simpa using he
      obtain ⟨k1, k2, k3, k4⟩ := pairS_keeps n (it (keyS (it s).1 (it s).2 ks)).2 (ks ++ [(it s).1, (it (keyS (it s).1 (it s).2 ks)).1]) he (K.good _ he).2
      exact ⟨by omega, by omega, k3, k4⟩
end

theorem bytesS_keeps (valid : List UInt8 → Bool) (kind n : Nat) (s : RS) : (bytesS valid kind n s).2.b.length ≤ s.b.length ∧ (bytesS valid kind n s).2.items = s.items := by
  refine ⟨?_, ?_⟩
  · unfold bytesS
    simp only
    (repeat' split) <;> simp only [RS.fail_b, List.length_drop] <;> first | exact Nat.le_refl _ | exact Nat.sub_le _ _
  · unfold bytesS
    simp only
    (repeat' split) <;> simp only [RS.fail_items]

/-- An item, once its kind and number are known. -/
def bodyS (valid : List UInt8 → Bool) (deep : Nat) (k n : Nat) (s2 : RS) : CI × RS :=
  if k = 0 then (.mk 1 n true [] true [], s2)
  else if k = 1 then (.mk 2 n true [] true [], s2)
  else if k = 2 ∨ k = 3 then bytesS valid k n s2
  else if k = 4 ∨ k = 5 then
    match deep with
    | 0 => (.zero, s2.fail 13)
    | d + 1 => if k = 4 then arrS (itemS valid d) n s2 [] else pairS (itemS valid d) n s2 []
  else if k = 7 ∧ 20 ≤ n ∧ n ≤ 22 then (.mk (7 + (n - 20)) 0 true [] true [], s2)
  else (.zero, s2.fail 20)
theorem itemS_eq (valid : List UInt8 → Bool) (deep : Nat) (s : RS) : itemS valid deep s =
    if 512 < s.items + 1 then (.zero, ({ s with items := s.items + 1 } : RS).fail 14)
    else if (headS { s with items := s.items + 1 }).2.2.err ≠ 0 then (.zero, (headS { s with items := s.items + 1 }).2.2)
    else bodyS valid deep (headS { s with items := s.items + 1 }).1 (headS { s with items := s.items + 1 }).2.1 (headS { s with items := s.items + 1 }).2.2 := by
  cases deep <;> rfl

theorem itemS_keeps (valid : List UInt8 → Bool) : ∀ (d : Nat), Keeps (itemS valid d) (2 * d) := by
  intro d
  have body : ∀ (k n : Nat) (s2 : RS), s2.err = 0 → s2.items ≤ 512 → (bodyS valid d k n s2).2.b.length ≤ s2.b.length ∧ s2.items ≤ (bodyS valid d k n s2).2.items ∧ ((bodyS valid d k n s2).2.err = 0 → (bodyS valid d k n s2).2.items ≤ 512) ∧ (bodyS valid d k n s2).2.items ≤ 513 + 2 * d := by
    intro k n s2 h1 h2
    unfold bodyS
    split
    · exact ⟨Nat.le_refl _, Nat.le_refl _, fun _ => h2, by simp only; omega⟩
    split
    · exact ⟨Nat.le_refl _, Nat.le_refl _, fun _ => h2, by simp only; omega⟩
    split
    · obtain ⟨k1, k2⟩ := bytesS_keeps valid k n s2
      exact ⟨k1, by omega, fun _ => by omega, by omega⟩
    split
    · cases d with
      | zero => simp only [RS.fail_b, RS.fail_items]; exact ⟨Nat.le_refl _, Nat.le_refl _, fun _ => h2, by omega⟩
      | succ d =>
        have K := itemS_keeps valid d
        simp only
        split
        · obtain ⟨k1, k2, k3, k4⟩ := arrS_keeps K n s2 [] h1 h2
          exact ⟨k1, k2, k3, by omega⟩
        · obtain ⟨k1, k2, k3, k4⟩ := pairS_keeps K n s2 [] h1 h2
          exact ⟨k1, k2, k3, by omega⟩
    split
    · exact ⟨Nat.le_refl _, Nat.le_refl _, fun _ => h2, by simp only; omega⟩
    · simp only [RS.fail_b, RS.fail_items]; exact ⟨Nat.le_refl _, Nat.le_refl _, fun _ => h2, by omega⟩
  have hl := fun s : RS => headS_len { s with items := s.items + 1 }
  have hi := fun s : RS => headS_items { s with items := s.items + 1 }
  have he := fun s : RS => headS_err { s with items := s.items + 1 }
  refine ⟨fun s => ?_, fun s => ?_, fun s h => ?_, fun s h => ?_, fun s h h2 => ?_⟩
  · have := hl s
    rw [itemS_eq]
    split
    · simp only [RS.fail_b]; exact Nat.le_refl _
    split
    · exact this
    · rename_i h1 h2
      have := (body _ (headS { s with items := s.items + 1 }).2.1 _ (by simpa using h2) (by rw [hi s]; simp only; omega) : (bodyS valid d (headS { s with items := s.items + 1 }).1 (headS { s with items := s.items + 1 }).2.1 (headS { s with items := s.items + 1 }).2.2).2.b.length ≤ _ ∧ _).1
      have h3 := hl s
      simp only at h3
      omega
  · have := hi s
    rw [itemS_eq]
    split
    · simp only [RS.fail_items]; exact Nat.le_refl _
    split
    · rw [this]; exact Nat.le_refl _
    · rename_i h1 h2
      have := (body (headS { s with items := s.items + 1 }).1 (headS { s with items := s.items + 1 }).2.1 _ (by simpa using h2) (by rw [hi s]; simp only; omega)).2.1
      rw [hi s] at this
      exact this
  · rw [itemS_eq] at h
    split at h
    · rename_i h1
      simp only [RS.fail_err] at h
      split at h
      · cases h
      · rename_i h2; exact absurd h h2
    split at h
    · rename_i h1 h2; exact absurd h h2
    · rename_i h1 h2
      have h2 : (headS { s with items := s.items + 1 }).2.2.err = 0 := by simpa using h2
      have h3 : s.err = 0 := by
        by_cases e : s.err = 0
        · exact e
        · have := he s e
          rw [this] at h2; exact h2
      refine ⟨h3, ?_⟩
      rw [itemS_eq, if_neg h1, if_neg (by simp [h2])]
      exact (body _ _ _ h2 (by rw [hi s]; simp only; omega)).2.2.1 h
  · have h2 := he s h
    have h3 := hi s
    rw [itemS_eq]
    split
    · exact ⟨by simp only [RS.fail_err, if_neg h], by simp only [RS.fail_items]⟩
    · rw [if_pos (by rw [h2]; exact h)]
      exact ⟨h2, h3⟩
  · have h3 := hi s
    rw [itemS_eq]
    split
    · simp only [RS.fail_items]; omega
    split
    · rw [h3]; simp only; omega
    · rename_i h4 h5
      exact (body _ _ _ (by simpa using h5) (by rw [h3]; simp only; omega)).2.2.2
end Go.Proofs.YtijcpdgfbboamaaDoor
