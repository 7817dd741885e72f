/- Items of CBOR as data, and what reading them comes to: plain definitions, no program in sight. -/
import Derived.Test.YtijcpdgfbboamaaDoorVsTy
open Go Go.VS
namespace Go.Proofs.YtijcpdgfbboamaaDoor
set_option linter.unusedVariables false
/-- An item: its kind, its number, its bytes, its kids; of both slices, whether they are nil. -/
inductive CI where
  | mk (k n : Nat) (bn : Bool) (b : List UInt8) (kn : Bool) (ks : List CI)
mutual
def CI.av : CI → AV
  | .mk k n bn b kn ks => .agg [.int .u8 (k : Int), .int .u64 (n : Int), .sl none bn 1 (b.map u8), .sl none kn 4 (avs ks)]
def avs : List CI → List AV
  | [] => []
  | c :: cs => c.av :: avs cs
end
def CI.k : CI → Nat | .mk k _ _ _ _ _ => k
def CI.n : CI → Nat | .mk _ n _ _ _ _ => n
def CI.bn : CI → Bool | .mk _ _ b _ _ _ => b
def CI.b : CI → List UInt8 | .mk _ _ _ b _ _ => b
def CI.kn : CI → Bool | .mk _ _ _ _ k _ => k
def CI.ks : CI → List CI | .mk _ _ _ _ _ ks => ks
def CI.zero : CI := .mk 0 0 true [] true []
theorem avs_map : ∀ (l : List CI), avs l = l.map CI.av
  | [] => rfl
  | c :: cs => by simp [avs, avs_map cs]
instance : Inhabited CI := ⟨.zero⟩
theorem CI.eta : ∀ (i : CI), i = .mk i.k i.n i.bn i.b i.kn i.ks
  | .mk .. => rfl

/-- Bytes as a number, the greatest first. -/
def be (l : List UInt8) : Nat := l.foldl (fun n c => n * 256 + c.toNat) 0
theorem be_snoc (l : List UInt8) (c : UInt8) : be (l ++ [c]) = be l * 256 + c.toNat := by simp [be]
theorem be_lt_go : ∀ (l : List UInt8) (n : Nat), l.foldl (fun n c => n * 256 + c.toNat) n < (n + 1) * 256 ^ l.length
  | [], n => by simp
  | c :: l, n => by
    have h := be_lt_go l (n * 256 + c.toNat)
    have hc := c.toNat_lt
    simp only [List.foldl_cons, List.length_cons, Nat.pow_succ]
    refine Nat.lt_of_lt_of_le h ?_
    rw [Nat.mul_comm (256 ^ l.length) 256, ← Nat.mul_assoc]
    exact Nat.mul_le_mul_right _ (by omega)
theorem be_lt (l : List UInt8) : be l < 256 ^ l.length := by
  have := be_lt_go l 0
  simpa [be] using this

/-- What a reader holds: its bytes, its items, its first fault. -/
structure RS where
  b : List UInt8
  items : Nat
  err : Nat
/-- It, as cells. -/
def RS.cells (s : RS) (nb : Bool) : List AV := [.sl none nb 1 (s.b.map u8), .int .i64 (s.items : Int), .int .i64 (s.err : Int)]
def RS.fail (s : RS) (e : Nat) : RS := if s.err = 0 then { s with err := e } else s

/-- A kind, and its number. -/
def headS (s : RS) : Nat × Nat × RS :=
  if s.b.length = 0 then (0, 0, s.fail 20)
  else
    let c := (s.b.getD 0 default).toNat
    let r := s.b.drop 1
    if c % 32 < 24 ∨ c / 32 = 7 then (c / 32, c % 32, { s with b := r })
    else if 27 < c % 32 ∨ r.length < 2 ^ (c % 32 - 24) then (0, 0, ({ s with b := r } : RS).fail 20)
    else
      let z := 2 ^ (c % 32 - 24)
      let n := be (r.take z)
      let s2 : RS := { s with b := r.drop z }
      (c / 32, n, if (z = 1 ∧ n < 24) ∨ (1 < z ∧ n / 2 ^ (4 * z) = 0) then s2.fail 22 else s2)

def plainS (i : CI) : Bool := decide (1 ≤ i.k) && decide (i.k ≤ 4)
def cmpN (x y : Nat) : Int := if x < y then -1 else if y < x then 1 else 0
/-- How bytes stand to others. -/
def cmpB : List UInt8 → List UInt8 → Int
  | [], [] => 0
  | [], _ :: _ => -1
  | _ :: _, [] => 1
  | x :: xs, y :: ys => if x < y then -1 else if y < x then 1 else cmpB xs ys
def orderS (i j : CI) : Int :=
  if i.k ≠ j.k then cmpN i.k j.k
  else if i.k ≤ 2 then cmpN i.n j.n
  else if i.b.length ≠ j.b.length then cmpN i.b.length j.b.length
  else cmpB i.b j.b

section
variable (valid : List UInt8 → Bool) (it : RS → CI × RS)
/-- So many items. -/
def arrS : Nat → RS → List CI → CI × RS
  | 0, s, ks => (.mk 5 0 true [] ks.isEmpty ks, s)
  | n + 1, s, ks =>
    if (it s).2.err ≠ 0 then (.zero, (it s).2) else arrS n (it s).2 (ks ++ [(it s).1])
/-- A key has been read: may it stand there? -/
def keyS (k : CI) (s : RS) (ks : List CI) : RS :=
  let s2 := if s.err = 0 ∧ plainS k = false then s.fail 20 else s
  if s2.err = 0 ∧ ks ≠ [] ∧ 0 ≤ orderS (ks.getD (ks.length - 2) default) k then s2.fail 21 else s2
/-- So many keys, each with a value. -/
def pairS : Nat → RS → List CI → CI × RS
  | 0, s, ks => (.mk 6 0 true [] ks.isEmpty ks, s)
  | n + 1, s, ks =>
    let s3 := keyS (it s).1 (it s).2 ks
    if (it s3).2.err ≠ 0 then (.zero, (it s3).2) else pairS n (it s3).2 (ks ++ [(it s).1, (it s3).1])
def bytesS (kind n : Nat) (s : RS) : CI × RS :=
  if s.b.length < n then (.zero, s.fail 20)
  else
    let s2 : RS := { s with b := s.b.drop n }
    if kind = 2 then (.mk 3 0 false (s.b.take n) true [], s2)
    else if valid (s.b.take n) = false then (.zero, s2.fail 23) else (.mk 4 0 false (s.b.take n) true [], s2)
end
/-- One item, with others within it so deep. -/
def itemS (valid : List UInt8 → Bool) : Nat → RS → CI × RS
  | deep, s =>
    let s1 : RS := { s with items := s.items + 1 }
    if 512 < s1.items then (.zero, s1.fail 14)
    else
      let h := headS s1
      let s2 := h.2.2
      if s2.err ≠ 0 then (.zero, s2)
      else if h.1 = 0 then (.mk 1 h.2.1 true [] true [], s2)
      else if h.1 = 1 then (.mk 2 h.2.1 true [] true [], s2)
      else if h.1 = 2 ∨ h.1 = 3 then bytesS valid h.1 h.2.1 s2
      else if h.1 = 4 ∨ h.1 = 5 then
        match deep with
        | 0 => (.zero, s2.fail 13)
        | d + 1 => if h.1 = 4 then arrS (itemS valid d) h.2.1 s2 [] else pairS (itemS valid d) h.2.1 s2 []
      else if h.1 = 7 ∧ 20 ≤ h.2.1 ∧ h.2.1 ≤ 22 then (.mk (7 + (h.2.1 - 20)) 0 true [] true [], s2)
      else (.zero, s2.fail 20)
end Go.Proofs.YtijcpdgfbboamaaDoor
open Go Go.VS
namespace Go.Proofs.YtijcpdgfbboamaaDoor
set_option linter.unusedVariables false
theorem RS.fail_b (s : RS) (e : Nat) : (s.fail e).b = s.b := by unfold RS.fail; split <;> rfl
theorem RS.fail_items (s : RS) (e : Nat) : (s.fail e).items = s.items := by unfold RS.fail; split <;> rfl
theorem RS.fail_err (s : RS) (e : Nat) : (s.fail e).err = if s.err = 0 then e else s.err := by unfold RS.fail; split <;> rfl
theorem headS_len (s : RS) : (headS s).2.2.b.length ≤ s.b.length := by
  unfold headS
  simp only
  (repeat' split) <;> simp only [RS.fail_b, List.length_drop] <;> first | exact Nat.le_refl _ | exact Nat.sub_le _ _ | exact Nat.le_trans (Nat.sub_le _ _) (Nat.sub_le _ _)
theorem headS_items (s : RS) : (headS s).2.2.items = s.items := by
  unfold headS
  simp only
  (repeat' split) <;> simp only [RS.fail_items]
theorem headS_err (s : RS) (h : s.err ≠ 0) : (headS s).2.2.err = s.err := by
  unfold headS
  simp only
  (repeat' split) <;> simp only [RS.fail_err, if_neg h]
theorem headS_ne (s : RS) (h : (headS s).2.2.err = 0) : s.b ≠ [] := by
  intro e
  unfold headS at h
  rw [e] at h
  simp only [List.length_nil, if_true, RS.fail_err] at h
  split at h
  · cases h
  · rename_i h2; exact h2 h
/-- The kind is below 8, the number below 2 to the 64th. -/
theorem headS_bd (s : RS) : (headS s).1 < 8 ∧ (headS s).2.1 < 18446744073709551616 := by
  unfold headS
  simp only
  have hc := (s.b.getD 0 default).toNat_lt
  split
  · simp
  · split
    · simp only; omega
    · split
      · simp
      · rename_i h1 h2 h3
        simp only
        refine ⟨by omega, ?_⟩
        have hb := be_lt ((s.b.drop 1).take (2 ^ ((s.b.getD 0 default).toNat % 32 - 24)))
        refine Nat.lt_of_lt_of_le hb ?_
        rw [show (18446744073709551616 : Nat) = 256 ^ 8 from rfl]
        refine Nat.pow_le_pow_right (by decide) ?_
        rw [List.length_take]
        have h4 : (s.b.getD 0 default).toNat % 32 - 24 ≤ 3 := by omega
        have h5 : 2 ^ ((s.b.getD 0 default).toNat % 32 - 24) ≤ 2 ^ 3 := Nat.pow_le_pow_right (by decide) h4
        omega

/-- What a way to read an item keeps. -/
structure Keeps (it : RS → CI × RS) (m : Nat) : Prop where
  len : ∀ s, (it s).2.b.length ≤ s.b.length
  more : ∀ s, s.items + 1 ≤ (it s).2.items
  good : ∀ s, (it s).2.err = 0 → s.err = 0 ∧ (it s).2.items ≤ 512
  bad : ∀ s, s.err ≠ 0 → (it s).2.err = s.err ∧ (it s).2.items = s.items + 1
  most : ∀ s, s.err = 0 → s.items ≤ 512 → (it s).2.items ≤ 513 + m

section
variable {it : RS → CI × RS} {m : Nat} (K : Keeps it m)
include K
theorem arrS_keeps : ∀ (n : Nat) (s : RS) (ks : List CI), s.err = 0 → s.items ≤ 512 → (arrS it n s ks).2.b.length ≤ s.b.length ∧ s.items ≤ (arrS it n s ks).2.items ∧ ((arrS it n s ks).2.err = 0 → (arrS it n s ks).2.items ≤ 512) ∧ (arrS it n s ks).2.items ≤ 513 + m
  | 0, s, ks, h, h2 => by simp only [arrS]; exact ⟨Nat.le_refl _, Nat.le_refl _, fun _ => h2, by omega⟩
  | n + 1, s, ks, h, h2 => by
    have h3 := K.len s
    have h4 := K.more s
    have h5 := K.most s h h2
    simp only [arrS]
    split
    · rename_i he
      exact ⟨h3, by simp only; omega, fun e => absurd e he, h5⟩
    · rename_i he
      have he : (it s).2.err = 0 := by simpa using he
      obtain ⟨k1, k2, k3, k4⟩ := arrS_keeps n (it s).2 (ks ++ [(it s).1]) he (K.good s he).2
      exact ⟨by omega, by omega, k3, k4⟩
omit K in
theorem keyS_b (k : CI) (s : RS) (ks : List CI) : (keyS k s ks).b = s.b ∧ (keyS k s ks).items = s.items ∧ (s.err ≠ 0 → keyS k s ks = s) ∧ ((keyS k s ks).err = 0 → s.err = 0) := by
  unfold keyS
  simp only
  by_cases h1 : s.err = 0 ∧ plainS k = false
  · rw [if_pos h1]
    have h2 : (s.fail 20).err = 20 := by rw [RS.fail_err, if_pos h1.1]
    rw [if_neg (by rw [h2]; simp)]
    exact ⟨RS.fail_b .., RS.fail_items .., fun h => absurd h1.1 h, fun h => h1.1⟩
  · rw [if_neg h1]
    split
    · rename_i h2
      exact ⟨RS.fail_b .., RS.fail_items .., fun h => absurd h2.1 h, fun h => h2.1⟩
    · exact ⟨rfl, rfl, fun _ => rfl, id⟩
theorem pairS_keeps : ∀ (n : Nat) (s : RS) (ks : List CI), s.err = 0 → s.items ≤ 512 → (pairS it n s ks).2.b.length ≤ s.b.length ∧ s.items ≤ (pairS it n s ks).2.items ∧ ((pairS it n s ks).2.err = 0 → (pairS it n s ks).2.items ≤ 512) ∧ (pairS it n s ks).2.items ≤ 514 + m
  | 0, s, ks, h, h2 => by simp only [pairS]; exact ⟨Nat.le_refl _, Nat.le_refl _, fun _ => h2, by omega⟩
  | n + 1, s, ks, h, h2 => by
    have h3 := K.len s
    have h4 := K.more s
    have h5 := K.most s h h2
    obtain ⟨q1, q2, q3, q4⟩ := keyS_b (it s).1 (it s).2 ks
    have h6 := K.len (keyS (it s).1 (it s).2 ks)
    have h7 := K.more (keyS (it s).1 (it s).2 ks)
    rw [q1] at h6
    rw [q2] at h7
    have h8 : (it (keyS (it s).1 (it s).2 ks)).2.items ≤ 514 + m := by
      by_cases he : (keyS (it s).1 (it s).2 ks).err = 0
      · have he2 := q4 he
        have := K.most (keyS (it s).1 (it s).2 ks) he (by rw [q2]; exact (K.good s he2).2)
        omega
      · have := (K.bad _ he).2
        rw [this, q2]; omega
    simp only [pairS]
    split
    · rename_i he
      exact ⟨by simp only; omega, by simp only; omega, fun e => absurd e he, h8⟩
    · rename_i he
      have he : (it (keyS (it s).1 (it s).2 ks)).2.err = 0 := by simpa using he
      obtain ⟨k1, k2, k3, k4⟩ := pairS_keeps n (it (keyS (it s).1 (it s).2 ks)).2 (ks ++ [(it s).1, (it (keyS (it s).1 (it s).2 ks)).1]) he (K.good _ he).2
      exact ⟨by omega, by omega, k3, k4⟩
end

theorem bytesS_keeps (valid : List UInt8 → Bool) (kind n : Nat) (s : RS) : (bytesS valid kind n s).2.b.length ≤ s.b.length ∧ (bytesS valid kind n s).2.items = s.items := by
  refine ⟨?_, ?_⟩
  · unfold bytesS
    simp only
    (repeat' split) <;> simp only [RS.fail_b, List.length_drop] <;> first | exact Nat.le_refl _ | exact Nat.sub_le _ _
  · unfold bytesS
    simp only
    (repeat' split) <;> simp only [RS.fail_items]

/-- An item, once its kind and number are known. -/
def bodyS (valid : List UInt8 → Bool) (deep : Nat) (k n : Nat) (s2 : RS) : CI × RS :=
  if k = 0 then (.mk 1 n true [] true [], s2)
  else if k = 1 then (.mk 2 n true [] true [], s2)
  else if k = 2 ∨ k = 3 then bytesS valid k n s2
  else if k = 4 ∨ k = 5 then
    match deep with
    | 0 => (.zero, s2.fail 13)
    | d + 1 => if k = 4 then arrS (itemS valid d) n s2 [] else pairS (itemS valid d) n s2 []
  else if k = 7 ∧ 20 ≤ n ∧ n ≤ 22 then (.mk (7 + (n - 20)) 0 true [] true [], s2)
  else (.zero, s2.fail 20)
theorem itemS_eq (valid : List UInt8 → Bool) (deep : Nat) (s : RS) : itemS valid deep s =
    if 512 < s.items + 1 then (.zero, ({ s with items := s.items + 1 } : RS).fail 14)
    else if (headS { s with items := s.items + 1 }).2.2.err ≠ 0 then (.zero, (headS { s with items := s.items + 1 }).2.2)
    else bodyS valid deep (headS { s with items := s.items + 1 }).1 (headS { s with items := s.items + 1 }).2.1 (headS { s with items := s.items + 1 }).2.2 := by
  cases deep <;> rfl

theorem itemS_keeps (valid : List UInt8 → Bool) : ∀ (d : Nat), Keeps (itemS valid d) (2 * d) := by
  intro d
  have body : ∀ (k n : Nat) (s2 : RS), s2.err = 0 → s2.items ≤ 512 → (bodyS valid d k n s2).2.b.length ≤ s2.b.length ∧ s2.items ≤ (bodyS valid d k n s2).2.items ∧ ((bodyS valid d k n s2).2.err = 0 → (bodyS valid d k n s2).2.items ≤ 512) ∧ (bodyS valid d k n s2).2.items ≤ 513 + 2 * d := by
    intro k n s2 h1 h2
    unfold bodyS
    split
    · exact ⟨Nat.le_refl _, Nat.le_refl _, fun _ => h2, by simp only; omega⟩
    split
    · exact ⟨Nat.le_refl _, Nat.le_refl _, fun _ => h2, by simp only; omega⟩
    split
    · obtain ⟨k1, k2⟩ := bytesS_keeps valid k n s2
      exact ⟨k1, by omega, fun _ => by omega, by omega⟩
    split
    · cases d with
      | zero => simp only [RS.fail_b, RS.fail_items]; exact ⟨Nat.le_refl _, Nat.le_refl _, fun _ => h2, by omega⟩
      | succ d =>
        have K := itemS_keeps valid d
        simp only
        split
        · obtain ⟨k1, k2, k3, k4⟩ := arrS_keeps K n s2 [] h1 h2
          exact ⟨k1, k2, k3, by omega⟩
        · obtain ⟨k1, k2, k3, k4⟩ := pairS_keeps K n s2 [] h1 h2
          exact ⟨k1, k2, k3, by omega⟩
    split
    · exact ⟨Nat.le_refl _, Nat.le_refl _, fun _ => h2, by simp only; omega⟩
    · simp only [RS.fail_b, RS.fail_items]; exact ⟨Nat.le_refl _, Nat.le_refl _, fun _ => h2, by omega⟩
  have hl := fun s : RS => headS_len { s with items := s.items + 1 }
  have hi := fun s : RS => headS_items { s with items := s.items + 1 }
  have he := fun s : RS => headS_err { s with items := s.items + 1 }
  refine ⟨fun s => ?_, fun s => ?_, fun s h => ?_, fun s h => ?_, fun s h h2 => ?_⟩
  · have := hl s
    rw [itemS_eq]
    split
    · simp only [RS.fail_b]; exact Nat.le_refl _
    split
    · exact this
    · rename_i h1 h2
      have := (body _ (headS { s with items := s.items + 1 }).2.1 _ (by simpa using h2) (by rw [hi s]; simp only; omega) : (bodyS valid d (headS { s with items := s.items + 1 }).1 (headS { s with items := s.items + 1 }).2.1 (headS { s with items := s.items + 1 }).2.2).2.b.length ≤ _ ∧ _).1
      have h3 := hl s
      simp only at h3
      omega
  · have := hi s
    rw [itemS_eq]
    split
    · simp only [RS.fail_items]; exact Nat.le_refl _
    split
    · rw [this]; exact Nat.le_refl _
    · rename_i h1 h2
      have := (body (headS { s with items := s.items + 1 }).1 (headS { s with items := s.items + 1 }).2.1 _ (by simpa using h2) (by rw [hi s]; simp only; omega)).2.1
      rw [hi s] at this
      exact this
  · rw [itemS_eq] at h
    split at h
    · rename_i h1
      simp only [RS.fail_err] at h
      split at h
      · cases h
      · rename_i h2; exact absurd h h2
    split at h
    · rename_i h1 h2; exact absurd h h2
    · rename_i h1 h2
      have h2 : (headS { s with items := s.items + 1 }).2.2.err = 0 := by simpa using h2
      have h3 : s.err = 0 := by
        by_cases e : s.err = 0
        · exact e
        · have := he s e
          rw [this] at h2; exact h2
      refine ⟨h3, ?_⟩
      rw [itemS_eq, if_neg h1, if_neg (by simp [h2])]
      exact (body _ _ _ h2 (by rw [hi s]; simp only; omega)).2.2.1 h
  · have h2 := he s h
    have h3 := hi s
    rw [itemS_eq]
    split
    · exact ⟨by simp only [RS.fail_err, if_neg h], by simp only [RS.fail_items]⟩
    · rw [if_pos (by rw [h2]; exact h)]
      exact ⟨h2, h3⟩
  · have h3 := hi s
    rw [itemS_eq]
    split
    · simp only [RS.fail_items]; omega
    split
    · rw [h3]; simp only; omega
    · rename_i h4 h5
      exact (body _ _ _ (by simpa using h5) (by rw [h3]; simp only; omega)).2.2.2
end Go.Proofs.YtijcpdgfbboamaaDoor
open Go Go.VS
namespace Go.Proofs.YtijcpdgfbboamaaDoor
set_option linter.unusedVariables false
set_option linter.unusedSectionVars false
/-- Whether a key stands ahead of another. -/
def aheadS (i j : CI) : Bool :=
  if i.k ≠ j.k then decide (i.k < j.k)
  else if i.k = 1 ∨ i.k = 2 then decide (i.n < j.n)
  else if i.b.length ≠ j.b.length then decide (i.b.length < j.b.length)
  else decide (cmpB i.b j.b < 0)
/-- So many items, or so many keys, each with a value. -/
def grpR (it : RS → CI × RS) (pair : Bool) : Nat → RS → List CI → CI × RS
  | 0, s, ks => (.mk (if pair then 6 else 5) 0 true [] ks.isEmpty ks, s)
  | n + 1, s, ks =>
    if s.err ≠ 0 then (.mk (if pair then 6 else 5) 0 true [] ks.isEmpty ks, s)
    else if pair = false ∨ (it s).2.err ≠ 0 then grpR it pair n (it s).2 (ks ++ [(it s).1])
    else if plainS (it s).1 = false then grpR it pair n ((it s).2.fail 20) (ks ++ [(it s).1])
    else if ks ≠ [] ∧ aheadS (ks.getD (ks.length - 2) default) (it s).1 = false then grpR it pair n ((it s).2.fail 21) (ks ++ [(it s).1])
    else grpR it pair n (it (it s).2).2 (ks ++ [(it s).1] ++ [(it (it s).2).1])
def lowN (j : Nat) : Nat := if j = 0 then 24 else if j = 1 then 256 else if j = 2 then 65536 else 4294967296
def kindR (valid : List UInt8 → Bool) (grp : Option (Bool → Nat → RS → CI × RS)) (k n : Nat) (s : RS) : CI × RS :=
  if k = 0 then (.mk 1 n true [] true [], s)
  else if k = 1 then (.mk 2 n true [] true [], s)
  else if k = 2 ∨ k = 3 then
    if s.b.length < n then (.zero, s.fail 20)
    else if k = 2 then (.mk 3 0 false (s.b.take n) true [], { s with b := s.b.drop n })
    else (.mk 4 0 false (s.b.take n) true [], if valid (s.b.take n) = true then { s with b := s.b.drop n } else ({ s with b := s.b.drop n } : RS).fail 23)
  else if k = 4 ∨ k = 5 then
    match grp with
    | none => (.zero, s.fail 13)
    | some g => g (decide (k = 5)) n s
  else (.zero, s.fail 20)
/-- One item, once it is counted. -/
def restR (valid : List UInt8 → Bool) (grp : Option (Bool → Nat → RS → CI × RS)) (s1 : RS) : CI × RS :=
  if 512 < s1.items then (.zero, s1.fail 14)
  else if s1.b.length = 0 then (.zero, s1.fail 20)
  else if (s1.b.getD 0 default).toNat / 32 = 7 then
    if (s1.b.getD 0 default).toNat % 32 < 20 ∨ 22 < (s1.b.getD 0 default).toNat % 32 then (.zero, ({ s1 with b := s1.b.drop 1 } : RS).fail 20)
    else (.mk (7 + ((s1.b.getD 0 default).toNat % 32 - 20)) 0 true [] true [], { s1 with b := s1.b.drop 1 })
  else if 24 ≤ (s1.b.getD 0 default).toNat % 32 then
    if 27 < (s1.b.getD 0 default).toNat % 32 ∨ (s1.b.drop 1).length < 2 ^ ((s1.b.getD 0 default).toNat % 32 - 24) then (.zero, ({ s1 with b := s1.b.drop 1 } : RS).fail 20)
    else if be ((s1.b.drop 1).take (2 ^ ((s1.b.getD 0 default).toNat % 32 - 24))) < lowN ((s1.b.getD 0 default).toNat % 32 - 24) then
      (.zero, ({ s1 with b := (s1.b.drop 1).drop (2 ^ ((s1.b.getD 0 default).toNat % 32 - 24)) } : RS).fail 22)
    else kindR valid grp ((s1.b.getD 0 default).toNat / 32) (be ((s1.b.drop 1).take (2 ^ ((s1.b.getD 0 default).toNat % 32 - 24)))) { s1 with b := (s1.b.drop 1).drop (2 ^ ((s1.b.getD 0 default).toNat % 32 - 24)) }
  else kindR valid grp ((s1.b.getD 0 default).toNat / 32) ((s1.b.getD 0 default).toNat % 32) { s1 with b := s1.b.drop 1 }
/-- One item, with others within it so deep. -/
def itemR (valid : List UInt8 → Bool) : Nat → RS → CI × RS
  | 0, s => restR valid none { s with items := s.items + 1 }
  | d + 1, s => restR valid (some fun p n s => grpR (itemR valid d) p n s []) { s with items := s.items + 1 }

def Agr (x y : CI × RS) : Prop := x.2.err = y.2.err ∧ (x.2.err = 0 → x = y)
theorem Agr.rfl {x : CI × RS} : Agr x x := ⟨Eq.refl _, fun _ => Eq.refl _⟩
theorem Agr.bad {x y : CI × RS} (h : x.2 = y.2) (he : x.2.err ≠ 0) : Agr x y := ⟨by rw [h], fun e => absurd e he⟩
theorem grp_err (it : RS → CI × RS) (p : Bool) : ∀ (n : Nat) (s : RS) (ks : List CI), s.err ≠ 0 → (grpR it p n s ks).2 = s
  | 0, s, ks, h => rfl
  | n + 1, s, ks, h => by simp only [grpR]; rw [if_pos h]
theorem order_ahead {i j : CI} (hi : plainS i = true) : 0 ≤ orderS i j ↔ aheadS i j = false := by
  unfold plainS at hi
  simp only [Bool.and_eq_true, decide_eq_true_eq] at hi
  unfold orderS aheadS cmpN
  by_cases h1 : i.k ≠ j.k
  · rw [if_pos h1, if_pos h1]
    by_cases h2 : i.k < j.k
    · simp [h2]
    · by_cases h3 : j.k < i.k <;> simp [h2, h3]
  · rw [if_neg h1, if_neg h1]
    by_cases h2 : i.k ≤ 2
    · have h12 : i.k = 1 ∨ i.k = 2 := by omega
      rw [if_pos h2, if_pos h12]
      by_cases h3 : i.n < j.n
      · simp [h3]
      · by_cases h4 : j.n < i.n <;> simp [h3, h4]
    · have h12 : ¬ (i.k = 1 ∨ i.k = 2) := by omega
      rw [if_neg h2, if_neg h12]
      by_cases h3 : i.b.length ≠ j.b.length
      · rw [if_pos h3, if_pos h3]
        by_cases h4 : i.b.length < j.b.length
        · simp [h4]
        · by_cases h5 : j.b.length < i.b.length <;> simp [h4, h5]
      · rw [if_neg h3, if_neg h3]
        simp
theorem keyS_plain {k : CI} {s : RS} {ks : List CI} (h : s.err = 0) (hp : plainS k = false) : keyS k s ks = s.fail 20 := by
  have e1 : (if s.err = 0 ∧ plainS k = false then s.fail 20 else s) = s.fail 20 := if_pos ⟨h, hp⟩
  unfold keyS
  simp only [e1]
  rw [if_neg (by rw [RS.fail_err, if_pos h]; simp)]
theorem keyS_order {k : CI} {s : RS} {ks : List CI} (h : s.err = 0) (hp : plainS k = true) (ho : ks ≠ [] ∧ 0 ≤ orderS (ks.getD (ks.length - 2) default) k) : keyS k s ks = s.fail 21 := by
  have e1 : (if s.err = 0 ∧ plainS k = false then s.fail 20 else s) = s := if_neg (fun x => by rw [hp] at x; cases x.2)
  unfold keyS
  simp only [e1]
  rw [if_pos ⟨h, ho⟩]
theorem keyS_good {k : CI} {s : RS} {ks : List CI} (hp : plainS k = true) (ho : ¬ (ks ≠ [] ∧ 0 ≤ orderS (ks.getD (ks.length - 2) default) k)) : keyS k s ks = s := by
  have e1 : (if s.err = 0 ∧ plainS k = false then s.fail 20 else s) = s := if_neg (fun x => by rw [hp] at x; cases x.2)
  unfold keyS
  simp only [e1]
  rw [if_neg (fun x => ho x.2)]
section
variable {r it : RS → CI × RS} {m : Nat} (K : Keeps it m) (hr : ∀ s : RS, s.err = 0 → Agr (r s) (it s))
include K hr
theorem arr_agr : ∀ (n : Nat) (s : RS) (ks : List CI), s.err = 0 → Agr (grpR r false n s ks) (arrS it n s ks)
  | 0, s, ks, h => Agr.rfl
  | n + 1, s, ks, h => by
    obtain ⟨h1, h2⟩ := hr s h
    simp only [grpR, arrS]
    rw [if_neg (by simp [h])]
    rw [if_pos (Or.inl trivial)]
    by_cases he : (it s).2.err = 0
    · rw [if_neg (by simp [he])]
      have e := h2 (by rw [h1]; exact he)
      rw [e]
      exact arr_agr n _ _ he
    · rw [if_pos he]
      have he' : (r s).2.err ≠ 0 := by rw [h1]; exact he
      have hg := grp_err r false n (r s).2 (ks ++ [(r s).1]) he'
      exact ⟨by rw [hg]; exact h1, fun e => by rw [hg] at e; exact absurd e he'⟩
theorem pair_agr : ∀ (n : Nat) (s : RS) (ks : List CI), s.err = 0 → (ks ≠ [] → plainS (ks.getD (ks.length - 2) default) = true) → Agr (grpR r true n s ks) (pairS it n s ks)
  | 0, s, ks, h, hk => Agr.rfl
  | n + 1, s, ks, h, hk => by
    obtain ⟨h1, h2⟩ := hr s h
    simp only [grpR, pairS]
    rw [if_neg (by simp [h])]
    by_cases he : (it s).2.err = 0
    · have e := h2 (by rw [h1]; exact he)
      rw [e]
      rw [if_neg (by simp [he])]
      by_cases hp : plainS (it s).1 = false
      · rw [if_pos hp]
        have e20 : ((it s).2.fail 20).err = 20 := by rw [RS.fail_err, if_pos he]
        have hkey : keyS (it s).1 (it s).2 ks = (it s).2.fail 20 := keyS_plain he hp
        rw [hkey]
        have hb := (K.bad _ (by rw [e20]; decide)).1
        rw [if_pos (by rw [hb, e20]; decide)]
        have hg := grp_err r true n ((it s).2.fail 20) (ks ++ [(it s).1]) (by rw [e20]; decide)
        exact ⟨by rw [hg]; exact hb.symm, fun e => by rw [hg, e20] at e; cases e⟩
      · rw [if_neg hp]
        have hp' : plainS (it s).1 = true := by simpa using hp
        by_cases ho : ks ≠ [] ∧ aheadS (ks.getD (ks.length - 2) default) (it s).1 = false
        · rw [if_pos ho]
          have e21 : ((it s).2.fail 21).err = 21 := by rw [RS.fail_err, if_pos he]
          have hkey : keyS (it s).1 (it s).2 ks = (it s).2.fail 21 := keyS_order he hp' ⟨ho.1, (order_ahead (hk ho.1)).2 ho.2⟩
          rw [hkey]
          have hb := (K.bad _ (by rw [e21]; decide)).1
          rw [if_pos (by rw [hb, e21]; decide)]
          have hg := grp_err r true n ((it s).2.fail 21) (ks ++ [(it s).1]) (by rw [e21]; decide)
          exact ⟨by rw [hg]; exact hb.symm, fun e => by rw [hg, e21] at e; cases e⟩
        · rw [if_neg ho]
          have hkey : keyS (it s).1 (it s).2 ks = (it s).2 := keyS_good hp' (fun x => ho ⟨x.1, (order_ahead (hk x.1)).1 x.2⟩)
          rw [hkey]
          obtain ⟨h3, h4⟩ := hr (it s).2 he
          by_cases he2 : (it (it s).2).2.err = 0
          · rw [if_neg (by simp [he2])]
            have e2 := h4 (by rw [h3]; exact he2)
            rw [e2, List.append_assoc]
            refine pair_agr n _ _ he2 (fun _ => ?_)
            have : (ks ++ ([(it s).1] ++ [(it (it s).2).1])).getD ((ks ++ ([(it s).1] ++ [(it (it s).2).1])).length - 2) default = (it s).1 := by
              simp [List.getD_eq_getElem?_getD]
            rw [this]; exact hp'
          · rw [if_pos he2]
            have he3 : (r (it s).2).2.err ≠ 0 := by rw [h3]; exact he2
            have hg := grp_err r true n (r (it s).2).2 (ks ++ [(it s).1] ++ [(r (it s).2).1]) he3
            exact ⟨by rw [hg]; exact h3, fun e => by rw [hg] at e; exact absurd e he3⟩
    · have he' : (r s).2.err ≠ 0 := by rw [h1]; exact he
      rw [if_pos (Or.inr he')]
      have hg := grp_err r true n (r s).2 (ks ++ [(r s).1]) he'
      have hkey : keyS (it s).1 (it s).2 ks = (it s).2 := (keyS_b (it s).1 (it s).2 ks).2.2.1 he
      rw [hkey]
      have hb := (K.bad _ he).1
      rw [if_pos (by rw [hb]; exact he)]
      exact ⟨by rw [hg, hb]; exact h1, fun e => by rw [hg] at e; exact absurd e he'⟩
end
def GrpOk (valid : List UInt8 → Bool) (grp : Option (Bool → Nat → RS → CI × RS)) (n : Nat) (s : RS) : Nat → Prop
  | 0 => grp = none
  | d + 1 => ∃ g, grp = some g ∧ Agr (g false n s) (arrS (itemS valid d) n s []) ∧ Agr (g true n s) (pairS (itemS valid d) n s [])
theorem kind_agr (valid : List UInt8 → Bool) (d : Nat) (grp : Option (Bool → Nat → RS → CI × RS)) (k n : Nat) (s : RS) (hs : s.err = 0) (hk : k ≠ 7)
    (hg : GrpOk valid grp n s d) :
    Agr (kindR valid grp k n s) (bodyS valid d k n s) := by
  unfold kindR bodyS
  by_cases h0 : k = 0
  · rw [if_pos h0, if_pos h0]; exact Agr.rfl
  rw [if_neg h0, if_neg h0]
  by_cases h1 : k = 1
  · rw [if_pos h1, if_pos h1]; exact Agr.rfl
  rw [if_neg h1, if_neg h1]
  by_cases h2 : k = 2 ∨ k = 3
  · rw [if_pos h2, if_pos h2]
    unfold bytesS
    by_cases hl : s.b.length < n
    · rw [if_pos hl, if_pos hl]; exact Agr.rfl
    · rw [if_neg hl, if_neg hl]
      simp only
      by_cases hk2 : k = 2
      · rw [if_pos hk2, if_pos hk2]; exact Agr.rfl
      · rw [if_neg hk2, if_neg hk2]
        by_cases hv : valid (s.b.take n) = true
        · rw [if_pos hv, if_neg (by rw [hv]; decide)]; exact Agr.rfl
        · rw [if_neg hv, if_pos (by simpa using hv)]
          refine Agr.bad rfl ?_
          simp only [RS.fail_err, if_pos hs]
          decide
  rw [if_neg h2, if_neg h2]
  by_cases h4 : k = 4 ∨ k = 5
  · rw [if_pos h4, if_pos h4]
    cases d with
    | zero => have hg : grp = none := hg; rw [hg]; exact Agr.rfl
    | succ d =>
      obtain ⟨g, rfl, g1, g2⟩ := hg
      simp only
      by_cases hk4 : k = 4
      · subst hk4; rw [if_pos rfl]; exact g1
      · have : k = 5 := by omega
        subst this; rw [if_neg hk4]; exact g2
  rw [if_neg h4, if_neg h4, if_neg (fun x => hk x.1)]
  exact Agr.rfl
theorem body7 (valid : List UInt8 → Bool) (d n : Nat) (s : RS) : bodyS valid d 7 n s = if 20 ≤ n ∧ n ≤ 22 then (.mk (7 + (n - 20)) 0 true [] true [], s) else (.zero, s.fail 20) := by
  by_cases h : 20 ≤ n ∧ n ≤ 22
  · rw [if_pos h]
    have h' : 7 = 7 ∧ 20 ≤ n ∧ n ≤ 22 := ⟨rfl, h⟩
    simp [bodyS, h']
  · rw [if_neg h]
    have h' : ¬ (7 = 7 ∧ 20 ≤ n ∧ n ≤ 22) := fun x => h x.2
    unfold bodyS
    rw [if_neg (by omega), if_neg (by omega), if_neg (by omega), if_neg (by omega), if_neg h']
theorem low_short {j n : Nat} (hj : j ≤ 3) : n < lowN j ↔ ((2 ^ j = 1 ∧ n < 24) ∨ (1 < 2 ^ j ∧ n / 2 ^ (4 * 2 ^ j) = 0)) := by
  unfold lowN
  match j, hj with
  | 0, _ => simp
  | 1, _ => simp [Nat.div_eq_zero_iff]
  | 2, _ => simp [Nat.div_eq_zero_iff]
  | 3, _ => simp [Nat.div_eq_zero_iff]
theorem item_agr (valid : List UInt8 → Bool) : ∀ (d : Nat) (s : RS), s.err = 0 → Agr (itemR valid d s) (itemS valid d s) := by
  intro d
  have rest : ∀ (grp : Option (Bool → Nat → RS → CI × RS)) (s : RS), s.err = 0 →
      (∀ n s', s'.err = 0 → GrpOk valid grp n s' d) →
      Agr (restR valid grp { s with items := s.items + 1 }) (itemS valid d s) := by
    intro grp s hs hg
    rw [itemS_eq]
    unfold restR
    simp only
    by_cases hm : 512 < s.items + 1
    · rw [if_pos hm, if_pos hm]; exact Agr.rfl
    rw [if_neg hm, if_neg hm]
    have hc := (s.b.getD 0 default).toNat_lt
    by_cases hl : s.b.length = 0
    · rw [if_pos hl]
      have hh : headS { s with items := s.items + 1 } = (0, 0, ({ s with items := s.items + 1 } : RS).fail 20) := by unfold headS; rw [if_pos hl]
      rw [hh]
      simp only
      rw [if_pos (by simp only [RS.fail_err, if_pos hs]; decide)]
      exact Agr.rfl
    rw [if_neg hl]
    by_cases h7 : (s.b.getD 0 default).toNat / 32 = 7
    · rw [if_pos h7]
      have hh : headS { s with items := s.items + 1 } = ((s.b.getD 0 default).toNat / 32, (s.b.getD 0 default).toNat % 32, { s with items := s.items + 1, b := s.b.drop 1 }) := by
        unfold headS; rw [if_neg hl]; simp only; rw [if_pos (Or.inr h7)]
      rw [hh]
      simp only
      have hs0 : ¬ s.err ≠ 0 := fun x => x hs
      by_cases hq : (s.b.getD 0 default).toNat % 32 < 20 ∨ 22 < (s.b.getD 0 default).toNat % 32
      · rw [if_pos hq, if_neg hs0, h7, body7, if_neg (by omega)]; exact Agr.rfl
      · rw [if_neg hq, if_neg hs0, h7, body7, if_pos (by omega)]; exact Agr.rfl
    rw [if_neg h7]
    by_cases h24 : 24 ≤ (s.b.getD 0 default).toNat % 32
    · rw [if_pos h24]
      by_cases h27 : 27 < (s.b.getD 0 default).toNat % 32 ∨ (s.b.drop 1).length < 2 ^ ((s.b.getD 0 default).toNat % 32 - 24)
      · rw [if_pos h27]
        have hh : headS { s with items := s.items + 1 } = (0, 0, ({ s with items := s.items + 1, b := s.b.drop 1 } : RS).fail 20) := by
          unfold headS; rw [if_neg hl]; simp only; rw [if_neg (by omega), if_pos h27]
        rw [hh]
        simp only
        rw [if_pos (by simp only [RS.fail_err, if_pos hs]; decide)]
        exact Agr.rfl
      · rw [if_neg h27]
        have hls := low_short (j := (s.b.getD 0 default).toNat % 32 - 24) (n := be ((s.b.drop 1).take (2 ^ ((s.b.getD 0 default).toNat % 32 - 24)))) (by omega)
        by_cases hsh : be ((s.b.drop 1).take (2 ^ ((s.b.getD 0 default).toNat % 32 - 24))) < lowN ((s.b.getD 0 default).toNat % 32 - 24)
        · rw [if_pos hsh]
          have hh : headS { s with items := s.items + 1 } = ((s.b.getD 0 default).toNat / 32, be ((s.b.drop 1).take (2 ^ ((s.b.getD 0 default).toNat % 32 - 24))), ({ s with items := s.items + 1, b := (s.b.drop 1).drop (2 ^ ((s.b.getD 0 default).toNat % 32 - 24)) } : RS).fail 22) := by
            unfold headS; rw [if_neg hl]; simp only; rw [if_neg (by omega), if_neg h27, if_pos (hls.1 hsh)]
          rw [hh]
          simp only
          rw [if_pos (by simp only [RS.fail_err, if_pos hs]; decide)]
          exact Agr.rfl
        · rw [if_neg hsh]
          have hh : headS { s with items := s.items + 1 } = ((s.b.getD 0 default).toNat / 32, be ((s.b.drop 1).take (2 ^ ((s.b.getD 0 default).toNat % 32 - 24))), { s with items := s.items + 1, b := (s.b.drop 1).drop (2 ^ ((s.b.getD 0 default).toNat % 32 - 24)) }) := by
            unfold headS; rw [if_neg hl]; simp only; rw [if_neg (by omega), if_neg h27, if_neg (fun x => hsh (hls.2 x))]
          rw [hh]
          simp only
          rw [if_neg (by simp [hs])]
          exact kind_agr valid d grp _ _ _ hs h7 (hg _ _ hs)
    · rw [if_neg h24]
      have hh : headS { s with items := s.items + 1 } = ((s.b.getD 0 default).toNat / 32, (s.b.getD 0 default).toNat % 32, { s with items := s.items + 1, b := s.b.drop 1 }) := by
        unfold headS; rw [if_neg hl]; simp only; rw [if_pos (Or.inl (by omega))]
      rw [hh]
      simp only
      rw [if_neg (by simp [hs])]
      exact kind_agr valid d grp _ _ _ hs h7 (hg _ _ hs)
  cases d with
  | zero => exact fun s hs => rest none s hs (fun _ _ _ => rfl)
  | succ d =>
    have ih := item_agr valid d
    have K := itemS_keeps valid d
    exact fun s hs => rest _ s hs (fun n s' hs' => ⟨_, rfl, arr_agr K ih n s' [] hs', pair_agr K ih n s' [] hs' (fun h => absurd rfl h)⟩)
/-- So deep at most, and nowhere too many within one. -/
def Wide : Nat → CI → Prop
  | 0, x => x.ks = []
  | d + 1, x => x.ks.length ≤ 10000 ∧ ∀ y ∈ x.ks, Wide d y
theorem Wide.leaf (d : Nat) {x : CI} (h : x.ks = []) : Wide d x := by
  cases d with
  | zero => exact h
  | succ d => exact ⟨by rw [h]; exact Nat.zero_le _, fun y hy => by rw [h] at hy; cases hy⟩
section
variable {it : RS → CI × RS} {m d : Nat} (K : Keeps it m) (hw : ∀ s : RS, Wide d (it s).1)
include K hw
theorem arr_wide : ∀ (n : Nat) (s : RS) (ks : List CI), s.items ≤ 512 → ks.length ≤ s.items → (∀ y ∈ ks, Wide d y) → Wide (d + 1) (arrS it n s ks).1
  | 0, s, ks, h1, h2, h3 => ⟨by show ks.length ≤ 10000; omega, h3⟩
  | n + 1, s, ks, h1, h2, h3 => by
    simp only [arrS]
    split
    · exact Wide.leaf _ rfl
    · rename_i he
      have he : (it s).2.err = 0 := by simpa using he
      have h4 := K.more s
      refine arr_wide n _ _ (K.good s he).2 (by rw [List.length_append]; simp only [List.length_cons, List.length_nil]; omega) (fun y hy => ?_)
      rcases List.mem_append.1 hy with hy | hy
      · exact h3 y hy
      · rw [List.mem_singleton] at hy; subst hy; exact hw s
theorem pair_wide : ∀ (n : Nat) (s : RS) (ks : List CI), s.items ≤ 512 → ks.length ≤ s.items → (∀ y ∈ ks, Wide d y) → Wide (d + 1) (pairS it n s ks).1
  | 0, s, ks, h1, h2, h3 => ⟨by show ks.length ≤ 10000; omega, h3⟩
  | n + 1, s, ks, h1, h2, h3 => by
    obtain ⟨q1, q2, q3, q4⟩ := keyS_b (it s).1 (it s).2 ks
    simp only [pairS]
    split
    · exact Wide.leaf _ rfl
    · rename_i he
      have he : (it (keyS (it s).1 (it s).2 ks)).2.err = 0 := by simpa using he
      have h4 := K.more s
      have h5 := K.more (keyS (it s).1 (it s).2 ks)
      rw [q2] at h5
      refine pair_wide n _ _ (K.good _ he).2 (by rw [List.length_append]; simp only [List.length_cons, List.length_nil]; omega) (fun y hy => ?_)
      rcases List.mem_append.1 hy with hy | hy
      · exact h3 y hy
      · simp only [List.mem_cons, List.not_mem_nil, or_false] at hy
        rcases hy with rfl | rfl
        · exact hw s
        · exact hw _
end
theorem item_wide (valid : List UInt8 → Bool) : ∀ (d : Nat) (s : RS), Wide d (itemS valid d s).1 := by
  intro d
  induction d with
  | zero =>
    intro s
    rw [itemS_eq]
    split
    · rfl
    split
    · rfl
    unfold bodyS bytesS
    (repeat' split) <;> first | rfl | (exfalso; omega)
  | succ d ih =>
    intro s
    have hi := headS_items { s with items := s.items + 1 }
    rw [itemS_eq]
    split
    · exact Wide.leaf _ rfl
    split
    · exact Wide.leaf _ rfl
    rename_i h1 h2
    unfold bodyS
    split
    · exact Wide.leaf _ rfl
    split
    · exact Wide.leaf _ rfl
    split
    · unfold bytesS
      (repeat' split) <;> exact Wide.leaf _ rfl
    split
    · simp only
      have h3 : (headS { s with items := s.items + 1 }).2.2.items ≤ 512 := by rw [hi]; simp only; omega
      split
      · exact arr_wide (itemS_keeps valid d) ih _ _ _ h3 (Nat.zero_le _) (fun y hy => by cases hy)
      · exact pair_wide (itemS_keeps valid d) ih _ _ _ h3 (Nat.zero_le _) (fun y hy => by cases hy)
    split
    · exact Wide.leaf _ rfl
    · exact Wide.leaf _ rfl
end Go.Proofs.YtijcpdgfbboamaaDoor
