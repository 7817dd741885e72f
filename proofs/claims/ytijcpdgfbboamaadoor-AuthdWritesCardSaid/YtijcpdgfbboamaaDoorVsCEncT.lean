/- What writing items of CBOR comes to: plain definitions, no program in sight. -/
import Derived.Test.YtijcpdgfbboamaaDoorVsCRefS
import Derived.Test.YtijcpdgfbboamaaDoorVsCShare
open Go Go.VS
namespace Go.Proofs.YtijcpdgfbboamaaDoor
set_option linter.unusedVariables false
/-- Where a walk is to stop: at a region. -/
def MarkQ (p : Prop) : Prop := p
theorem markQ (id : Nat) {P : Program} {X : Ent} {ops : Array Oper} {d : Bool} {y : Code} {Q : Exit → St → Prop} {st : St} (h : MarkQ (AWP P X (.seq (.region id ops d) y) Q st)) : AWP P X (.seq (.region id ops d) y) Q st := h
/-- So many bytes of a number, the greatest first. -/
def nbs (n : Nat) : Nat → List UInt8
  | 0 => []
  | k + 1 => UInt8.ofNat (n / 256 ^ k) :: nbs n k
theorem nbs_len (n : Nat) : ∀ k, (nbs n k).length = k
  | 0 => rfl
  | k + 1 => by simp [nbs, nbs_len n k]
/-- What a writer holds: its bytes, its items. -/
structure WS where
  b : List UInt8
  items : Nat
def WS.cells (s : WS) (g : Stamp) : List AV := [.sl (some (g, 0)) s.b.isEmpty 1 (s.b.map u8), .int .i64 (s.items : Int)]
def WS.put (s : WS) (l : List UInt8) : WS := { s with b := s.b ++ l }
def sizeN (n : Nat) : Nat := if n < 256 then 0 else if n < 65536 then 1 else if n < 4294967296 then 2 else 3
/-- A kind and a number, as bytes. -/
def hdW (k n : Nat) : List UInt8 := if n < 24 then [UInt8.ofNat (32 * k + n)] else UInt8.ofNat (32 * k + 24 + sizeN n) :: nbs n (2 ^ sizeN n)
section
variable (it : CI → WS → Nat × WS) (bad : CI → CI → Bool) (pair : Bool) (ks : List CI)
/-- So many kids, from a place on. -/
def kidsW : Nat → Nat → WS → Nat × WS
  | 0, _, s => (0, s)
  | n + 1, k, s =>
    if pair = true ∧ k % 2 = 0 ∧ plainS (ks.getD k default) = false then (20, s)
    else if pair = true ∧ k % 2 = 0 ∧ 0 < k ∧ bad (ks.getD (k - 2) default) (ks.getD k default) = true then (21, s)
    else if (it (ks.getD k default) s).1 ≠ 0 then it (ks.getD k default) s
    else kidsW n (k + 1) (it (ks.getD k default) s).2
end
/-- One item, with others within it so deep. -/
def itemW (valid : List UInt8 → Bool) (bad : CI → CI → Bool) : Nat → CI → WS → Nat × WS
  | deep, x, s =>
    let s1 : WS := { s with items := s.items + 1 }
    if 512 < s1.items then (14, s1)
    else if x.k = 1 ∨ x.k = 2 then (0, s1.put (hdW (x.k - 1) x.n))
    else if x.k = 3 ∨ x.k = 4 then (if x.k = 4 ∧ valid x.b = false then (23, s1) else (0, (s1.put (hdW (x.k - 1) x.b.length)).put x.b))
    else if x.k = 7 ∨ x.k = 8 ∨ x.k = 9 then (0, s1.put [UInt8.ofNat (244 + (x.k - 7))])
    else if x.k = 5 ∨ x.k = 6 then
      match deep with
      | 0 => (13, s1)
      | d + 1 =>
        if x.k = 6 ∧ x.ks.length % 2 = 1 then (20, s1)
        else kidsW (itemW valid bad d) bad (decide (x.k = 6)) x.ks x.ks.length 0 (s1.put (hdW (x.k - 1) (if x.k = 6 then x.ks.length / 2 else x.ks.length)))
    else (20, s1)
/-- The order of keys, as the program asks it. -/
def badO (a b : CI) : Bool := decide (0 ≤ orderS a b)
def encS (valid : List UInt8 → Bool) (x : CI) : List UInt8 × Nat :=
  let p := itemW valid badO 8 x ⟨[], 0⟩
  if p.1 ≠ 0 then ([], p.1) else if 8192 < p.2.b.length then ([], 3) else (p.2.b, 0)
/-- What may be written: numbers in their bounds, nothing too long. -/
def Lim (x : CI) : Prop := x.k < 256 ∧ x.n < 18446744073709551616 ∧ x.b.length ≤ 100000 ∧ x.ks.length ≤ 100000 ∧ (x.bn = true → x.b = [])
def Fit : Nat → CI → Prop
  | 0, x => Lim x
  | d + 1, x => Lim x ∧ ∀ y ∈ x.ks, Fit d y
theorem Fit.here {d : Nat} {x : CI} (h : Fit d x) : Lim x := by
  cases d with
  | zero => exact h
  | succ d => exact h.1
/-- What a way to write an item keeps. -/
structure KeepsW (it : CI → WS → Nat × WS) : Prop where
  good : ∀ x s, (it x s).1 = 0 → (it x s).2.items ≤ 512
  grow : ∀ x s, (it x s).1 = 0 → s.b.length + 1 ≤ (it x s).2.b.length
theorem hdW_len (k n : Nat) : 1 ≤ (hdW k n).length := by
  unfold hdW
  split <;> simp
theorem kidsW_keeps {it : CI → WS → Nat × WS} (K : KeepsW it) (bad : CI → CI → Bool) (pair : Bool) (ks : List CI) : ∀ (n k : Nat) (s : WS), s.items ≤ 512 → (kidsW it bad pair ks n k s).1 = 0 →
    (kidsW it bad pair ks n k s).2.items ≤ 512 ∧ s.b.length ≤ (kidsW it bad pair ks n k s).2.b.length
  | 0, k, s, h, _ => ⟨h, Nat.le_refl _⟩
  | n + 1, k, s, h, h0 => by
    simp only [kidsW] at h0 ⊢
    split at h0
    · cases h0
    rename_i h1
    rw [if_neg h1]
    split at h0
    · cases h0
    rename_i h2
    rw [if_neg h2]
    split at h0
    · rename_i h3; exact absurd h0 h3
    rename_i h3
    rw [if_neg h3]
    have h3' : (it (ks.getD k default) s).1 = 0 := by simpa using h3
    have g := K.grow _ _ h3'
    obtain ⟨r1, r2⟩ := kidsW_keeps K bad pair ks n (k + 1) _ (K.good _ _ h3') h0
    exact ⟨r1, by omega⟩
theorem itemW_keeps (valid : List UInt8 → Bool) (bad : CI → CI → Bool) : ∀ d, KeepsW (itemW valid bad d) := by
  intro d
  have key : ∀ x s, (itemW valid bad d x s).1 = 0 → (itemW valid bad d x s).2.items ≤ 512 ∧ s.b.length + 1 ≤ (itemW valid bad d x s).2.b.length := by
    intro x s h
    have hl := fun k n => hdW_len k n
    unfold itemW at h ⊢
    simp only at h ⊢
    by_cases c1 : 512 < s.items + 1
    · rw [if_pos c1] at h; cases h
    rw [if_neg c1] at h ⊢
    by_cases c2 : x.k = 1 ∨ x.k = 2
    · rw [if_pos c2]
      have := hl (x.k - 1) x.n
      exact ⟨by show s.items + 1 ≤ 512; omega, by show _ ≤ (s.b ++ _).length; rw [List.length_append]; omega⟩
    rw [if_neg c2] at h ⊢
    by_cases c3 : x.k = 3 ∨ x.k = 4
    · rw [if_pos c3] at h ⊢
      by_cases c4 : x.k = 4 ∧ valid x.b = false
      · rw [if_pos c4] at h; cases h
      rw [if_neg c4]
      have := hl (x.k - 1) x.b.length
      exact ⟨by show s.items + 1 ≤ 512; omega, by show _ ≤ (s.b ++ _ ++ _).length; rw [List.length_append, List.length_append]; omega⟩
    rw [if_neg c3] at h ⊢
    by_cases c5 : x.k = 7 ∨ x.k = 8 ∨ x.k = 9
    · rw [if_pos c5]
      exact ⟨by show s.items + 1 ≤ 512; omega, by show _ ≤ (s.b ++ _).length; rw [List.length_append]; simp⟩
    rw [if_neg c5] at h ⊢
    by_cases c6 : x.k = 5 ∨ x.k = 6
    · rw [if_pos c6] at h ⊢
      cases d with
      | zero => cases h
      | succ d =>
        simp only at h ⊢
        by_cases c7 : x.k = 6 ∧ x.ks.length % 2 = 1
        · rw [if_pos c7] at h; cases h
        rw [if_neg c7] at h ⊢
        obtain ⟨r1, r2⟩ := kidsW_keeps (itemW_keeps valid bad d) bad (decide (x.k = 6)) x.ks x.ks.length 0 _ (by show s.items + 1 ≤ 512; omega) h
        have := hl (x.k - 1) (if x.k = 6 then x.ks.length / 2 else x.ks.length)
        refine ⟨r1, Nat.le_trans ?_ r2⟩
        show _ ≤ (s.b ++ _).length
        rw [List.length_append]
        omega
    rw [if_neg c6] at h
    cases h
  exact ⟨fun x s h => (key x s h).1, fun x s h => (key x s h).2⟩
theorem hdW_le (k n : Nat) : (hdW k n).length ≤ 9 := by
  unfold hdW sizeN
  split
  · simp
  · simp only [List.length_cons, nbs_len]
    (repeat' split) <;> decide
/-- How long what is written may be. -/
def WS.Ok (s : WS) : Prop := s.items ≤ 512 ∧ s.b.length ≤ 100010 * s.items
theorem kidsW_ok {it : CI → WS → Nat × WS} {d : Nat} (K : ∀ x s, Fit d x → s.Ok → (it x s).1 = 0 → (it x s).2.Ok) (bad : CI → CI → Bool) (pair : Bool) (ks : List CI) (hf : ∀ y ∈ ks, Fit d y) :
    ∀ (n k : Nat) (s : WS), k + n ≤ ks.length → s.Ok → (kidsW it bad pair ks n k s).1 = 0 → (kidsW it bad pair ks n k s).2.Ok
  | 0, k, s, _, h, _ => h
  | n + 1, k, s, hk, h, h0 => by
    simp only [kidsW] at h0 ⊢
    split at h0
    · cases h0
    rename_i h1
    rw [if_neg h1]
    split at h0
    · cases h0
    rename_i h2
    rw [if_neg h2]
    split at h0
    · rename_i h3; exact absurd h0 h3
    rename_i h3
    rw [if_neg h3]
    have h3' : (it (ks.getD k default) s).1 = 0 := by simpa using h3
    have hm : ks.getD k default ∈ ks := by
      rw [List.getD_eq_getElem?_getD, List.getElem?_eq_getElem (by omega)]
      exact List.getElem_mem _
    exact kidsW_ok K bad pair ks hf n (k + 1) _ (by omega) (K _ _ (hf _ hm) h h3') h0
theorem itemW_ok (valid : List UInt8 → Bool) (bad : CI → CI → Bool) : ∀ d x s, Fit d x → s.Ok → (itemW valid bad d x s).1 = 0 → (itemW valid bad d x s).2.Ok := by
  intro d x s hf hs h
  obtain ⟨f1, f2, f3, f4, f5⟩ := hf.here
  obtain ⟨s1, s2⟩ := hs
  unfold itemW at h ⊢
  simp only at h ⊢
  by_cases c1 : 512 < s.items + 1
  · rw [if_pos c1] at h; cases h
  rw [if_neg c1] at h ⊢
  have put : ∀ (l : List UInt8), l.length ≤ 100010 → (WS.put { s with items := s.items + 1 } l).Ok := by
    intro l hl
    refine ⟨by show s.items + 1 ≤ 512; omega, ?_⟩
    show (s.b ++ l).length ≤ 100010 * (s.items + 1)
    rw [List.length_append]
    omega
  by_cases c2 : x.k = 1 ∨ x.k = 2
  · rw [if_pos c2]
    have := hdW_le (x.k - 1) x.n
    exact put _ (by omega)
  rw [if_neg c2] at h ⊢
  by_cases c3 : x.k = 3 ∨ x.k = 4
  · rw [if_pos c3] at h ⊢
    by_cases c4 : x.k = 4 ∧ valid x.b = false
    · rw [if_pos c4] at h; cases h
    rw [if_neg c4]
    have := hdW_le (x.k - 1) x.b.length
    have e : ((WS.put { s with items := s.items + 1 } (hdW (x.k - 1) x.b.length)).put x.b) = WS.put { s with items := s.items + 1 } (hdW (x.k - 1) x.b.length ++ x.b) := by
      unfold WS.put; simp
    rw [e]
    exact put _ (by rw [List.length_append]; omega)
  rw [if_neg c3] at h ⊢
  by_cases c5 : x.k = 7 ∨ x.k = 8 ∨ x.k = 9
  · rw [if_pos c5]
    exact put _ (by simp)
  rw [if_neg c5] at h ⊢
  by_cases c6 : x.k = 5 ∨ x.k = 6
  · rw [if_pos c6] at h ⊢
    cases d with
    | zero => cases h
    | succ d =>
      simp only at h ⊢
      by_cases c7 : x.k = 6 ∧ x.ks.length % 2 = 1
      · rw [if_pos c7] at h; cases h
      rw [if_neg c7] at h ⊢
      have := hdW_le (x.k - 1) (if x.k = 6 then x.ks.length / 2 else x.ks.length)
      exact kidsW_ok (itemW_ok valid bad d) bad (decide (x.k = 6)) x.ks hf.2 x.ks.length 0 _ (by omega) (put _ (by omega)) h
  rw [if_neg c6] at h
  cases h
end Go.Proofs.YtijcpdgfbboamaaDoor
open Go Go.VS
namespace Go.Proofs.YtijcpdgfbboamaaDoor
set_option linter.unusedVariables false
theorem shr8 (n k : Nat) (hk : k ≤ 7) : IntKind.u8.wrap ((n : Int).fdiv (2 ^ min (8 * k) 64)) = ((UInt8.ofNat (n / 256 ^ k)).toNat : Int) := by
  have e2 : (2 : Int) ^ (8 * k) = ((256 ^ k : Nat) : Int) := by rw [Int.natCast_pow, Int.pow_mul]; rfl
  rw [Nat.min_eq_left (by omega), e2, Int.fdiv_eq_ediv_of_nonneg _ (Int.natCast_nonneg _), ← Int.natCast_ediv, UInt8.toNat_ofNat']
  generalize n / 256 ^ k = x
  unfold IntKind.wrap
  simp [IntKind.bits, IntKind.signed]
theorem toN8 {x : Nat} (h : x < 256) : ((UInt8.ofNat x).toNat : Int) = (x : Int) := by
  rw [UInt8.toNat_ofNat']; omega
/-- What utf8.Valid says of an item's bytes. -/
def ValidI (valid : List UInt8 → Bool) : Prop := ∀ x : CI, Lim x → CallsP Tryd.prog 44 [.sl none x.bn 1 (x.b.map u8)] (.bool (valid x.b))
/-- Bytes, or none. -/
def bytesAV (b : List UInt8) : AV := .sl none b.isEmpty 1 (b.map u8)
def bytesOwn (b : List UInt8) : AV := bif b.isEmpty then .sl none true 1 [] else .sl (some ((3, 0), 0)) false 1 (b.map u8)
theorem own_bytes {f : FuncId} {args : List AV} {c : List UInt8} {e : Int} (h : CallsP Tryd.prog f args (.tup [bytesOwn c, .int .i64 e])) : CallsP Tryd.prog f args (.tup [bytesAV c, .int .i64 e]) := by
  cases c with
  | nil => exact share h (by rfl)
  | cons x c => exact share h (by rfl)
theorem enc_ne {valid : List UInt8 → Bool} {x : CI} {c : List UInt8} (h : encS valid x = (c, 0)) : c.isEmpty = false := by
  have K := (itemW_keeps valid badO 8).grow x ⟨[], 0⟩
  unfold encS at h
  simp only at h
  split at h
  · rename_i h1
    have := congrArg Prod.snd h
    exact absurd this h1
  · rename_i h1
    split at h
    · cases h
    · have h2 := congrArg Prod.fst h
      simp only at h2
      have := K (by simpa using h1)
      rw [h2] at this
      cases c with
      | nil => simp at this
      | cons => rfl
theorem enc_len {valid : List UInt8 → Bool} {x : CI} {c : List UInt8} (h : encS valid x = (c, 0)) : c.length ≤ 8192 := by
  unfold encS at h
  simp only at h
  split at h
  · rename_i h1
    exact absurd (congrArg Prod.snd h) h1
  · split at h
    · cases h
    · rename_i h2
      have h3 := congrArg Prod.fst h
      simp only at h3
      rw [h3] at h2
      omega
theorem Fit.leaf (d : Nat) {x : CI} (h : x.ks = []) (hl : Lim x) : Fit d x := by
  cases d with
  | zero => exact hl
  | succ d => exact ⟨hl, fun y hy => by rw [h] at hy; cases hy⟩
end Go.Proofs.YtijcpdgfbboamaaDoor
