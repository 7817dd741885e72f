/- Runes written as bytes are valid bytes: plain law, no program in sight. -/
import Derived.Test.YtijcpdgfbboamaaDoorVsCMadeF
import Derived.Lib.ValidAsc
import Derived.Test.YtijcpdgfbboamaaDoorVsCDecL
open Go Go.VS Go.Lib
namespace Go.Proofs.YtijcpdgfbboamaaDoor
set_option linter.unusedVariables false
theorem valid_step4 (l t : List UInt8) (k : Nat) (c : Nat) (hd : decodeL l = (c, k)) (hne : l ≠ []) (hk : l.drop k = t) (hc : ¬ (c = 65533 ∧ k = 1)) : validD l = validD t := by
  rw [validD_step l hne, hd]
  simp only
  rw [if_neg hc, hk]
theorem valid_enc (r : Int) (t : List UInt8) : validD ((Utf8.encode r).data.toList ++ t) = validD t := by
  have hx : ∃ c, (if Utf8.valid r = true then r.toNat else Utf8.runeError) = c ∧ (c < 55296 ∨ (57344 ≤ c ∧ c ≤ 1114111)) := by
    refine ⟨_, rfl, ?_⟩
    split
    · rename_i h
      simp only [Utf8.valid, Bool.or_eq_true, Bool.and_eq_true, decide_eq_true_eq] at h
      omega
    · unfold Utf8.runeError; omega
  obtain ⟨c, hc, hr⟩ := hx
  unfold Utf8.encode
  simp only
  rw [hc]
  have o : ∀ x : Nat, x < 256 → (UInt8.ofNat x).toNat = x := fun x hx => by rw [UInt8.toNat_ofNat']; omega
  by_cases h1 : c < 128
  · rw [if_pos h1]
    exact validD_cons _ _ (by rw [o c (by omega)]; exact h1)
  rw [if_neg h1]
  by_cases h2 : c < 2048
  · rw [if_pos h2]
    refine valid_step4 _ t 2 c ?_ (by simp) (by simp) (by omega)
    rw [decodeL_N]
    simp only [List.cons_append, List.nil_append, List.length_cons, List.getD_cons_zero, List.getD_cons_succ]
    rw [o _ (by omega), o _ (by omega)]
    unfold decodeN
    rw [if_neg (by omega), if_pos (by omega)]
    rw [if_pos (by omega)]
    congr 1; omega
  rw [if_neg h2]
  by_cases h3 : c < 65536
  · rw [if_pos h3]
    refine valid_step4 _ t 3 c ?_ (by simp) (by simp) (by omega)
    rw [decodeL_N]
    simp only [List.cons_append, List.nil_append, List.length_cons, List.getD_cons_zero, List.getD_cons_succ]
    rw [o _ (by omega), o _ (by omega), o _ (by omega)]
    unfold decodeN
    rw [if_neg (by omega), if_neg (by omega), if_pos (by omega)]
    rw [if_pos (by omega)]
    congr 1; omega
  · rw [if_neg h3]
    refine valid_step4 _ t 4 c ?_ (by simp) (by simp) (by omega)
    rw [decodeL_N]
    simp only [List.cons_append, List.nil_append, List.length_cons, List.getD_cons_zero, List.getD_cons_succ]
    rw [o _ (by omega), o _ (by omega), o _ (by omega), o _ (by omega)]
    unfold decodeN
    rw [if_neg (by omega), if_neg (by omega), if_neg (by omega), if_pos (by omega)]
    rw [if_pos (by omega)]
    congr 1; omega
theorem runes_bytes : ∀ (ns : List Int) (s : ByteArray), (ns.foldl (fun r n => r ++ Utf8.encode n) s).data.toList = s.data.toList ++ ns.flatMap fun n => (Utf8.encode n).data.toList
  | [], s => by simp
  | n :: ns, s => by
    rw [List.foldl_cons, runes_bytes ns, List.flatMap_cons]
    simp
theorem valid_runes (ns : List Int) : validD (runesBytes ns).data.toList = true := by
  unfold runesBytes
  rw [runes_bytes]
  have go : ∀ ns : List Int, validD (ns.flatMap fun n => (Utf8.encode n).data.toList) = true := by
    intro ns
    induction ns with
    | nil => rfl
    | cons n ns ih => rw [List.flatMap_cons, valid_enc, ih]
  exact go ns
theorem runesB_valid (b : List UInt8) : validD (runesB b) = true := valid_runes _
end Go.Proofs.YtijcpdgfbboamaaDoor
open Go Go.VS
namespace Go.Proofs.YtijcpdgfbboamaaDoor
set_option linter.unusedVariables false
/-- Keys that rise, from a place on. -/
def KeysOk (ks : List CI) : Prop := ks.length % 2 = 0 ∧ ∀ j, j < ks.length → j % 2 = 0 → plainS (ks.getD j default) = true ∧ (0 < j → badO (ks.getD (j - 2) default) (ks.getD j default) = false)
/-- An item that is right. -/
def Right (valid : List UInt8 → Bool) : Nat → CI → Prop
  | 0, x => 1 ≤ x.k ∧ x.k ≤ 9 ∧ (x.k = 4 → valid x.b = true) ∧ x.k ≠ 5 ∧ x.k ≠ 6
  | d + 1, x => 1 ≤ x.k ∧ x.k ≤ 9 ∧ (x.k = 4 → valid x.b = true) ∧ (x.k = 6 → KeysOk x.ks) ∧ (x.k = 5 ∨ x.k = 6 → ∀ y ∈ x.ks, Right valid d y)
theorem Right.up (valid : List UInt8 → Bool) : ∀ (d : Nat) (x : CI), Right valid d x → Right valid (d + 1) x
  | 0, x, h => ⟨h.1, h.2.1, h.2.2.1, fun e => absurd e h.2.2.2.2, fun e => by rcases e with e | e; exact absurd e h.2.2.2.1; exact absurd e h.2.2.2.2⟩
  | d + 1, x, h => ⟨h.1, h.2.1, h.2.2.1, h.2.2.2.1, fun e y hy => Right.up valid d y (h.2.2.2.2 e y hy)⟩
/-- Is it written, or are there too many? -/
def Writes (it : CI → WS → Nat × WS) (P : CI → Prop) : Prop := ∀ x w, P x → (it x w).1 = 0 ∨ (it x w).1 = 14
theorem kids_writes {it : CI → WS → Nat × WS} {P : CI → Prop} (W : Writes it P) (pair : Bool) (ks : List CI) (hp : ∀ y ∈ ks, P y) (hk : pair = true → KeysOk ks) :
    ∀ (n k : Nat) (w : WS), k + n = ks.length → (kidsW it badO pair ks n k w).1 = 0 ∨ (kidsW it badO pair ks n k w).1 = 14
  | 0, k, w, _ => .inl rfl
  | n + 1, k, w, h => by
    have hlt : k < ks.length := by omega
    have hm : ks.getD k default ∈ ks := by
      rw [List.getD_eq_getElem?_getD, List.getElem?_eq_getElem hlt]
      exact List.getElem_mem _
    simp only [kidsW]
    rw [if_neg (by
      rintro ⟨a, b, c⟩
      rw [((hk a).2 k hlt b).1] at c; cases c)]
    rw [if_neg (by
      rintro ⟨a, b, c, e⟩
      rw [((hk a).2 k hlt b).2 c] at e; cases e)]
    by_cases he : (it (ks.getD k default) w).1 ≠ 0
    · rw [if_pos he]
      rcases W _ w (hp _ hm) with h' | h'
      · exact absurd h' he
      · exact .inr h'
    · rw [if_neg he]
      exact kids_writes W pair ks hp hk n (k + 1) _ (by omega)
theorem item_writes (valid : List UInt8 → Bool) : ∀ d, Writes (itemW valid badO d) (Right valid d) := by
  intro d x w hx
  have h1 : 1 ≤ x.k := by cases d with
    | zero => exact hx.1
    | succ d => exact hx.1
  have h9 : x.k ≤ 9 := by cases d with
    | zero => exact hx.2.1
    | succ d => exact hx.2.1
  have h4 : x.k = 4 → valid x.b = true := by cases d with
    | zero => exact hx.2.2.1
    | succ d => exact hx.2.2.1
  unfold itemW
  simp only
  by_cases c1 : 512 < w.items + 1
  · rw [if_pos c1]; exact .inr rfl
  rw [if_neg c1]
  by_cases c2 : x.k = 1 ∨ x.k = 2
  · rw [if_pos c2]; exact .inl rfl
  rw [if_neg c2]
  by_cases c3 : x.k = 3 ∨ x.k = 4
  · rw [if_pos c3, if_neg (fun h => by rw [h4 h.1] at h; cases h.2)]; exact .inl rfl
  rw [if_neg c3]
  by_cases c5 : x.k = 7 ∨ x.k = 8 ∨ x.k = 9
  · rw [if_pos c5]; exact .inl rfl
  rw [if_neg c5, if_pos (by omega)]
  cases d with
  | zero => exact absurd (show x.k = 5 ∨ x.k = 6 by omega) (by have := hx.2.2.2; omega)
  | succ d =>
    simp only
    have hk := hx.2.2.2.1
    rw [if_neg (fun h => by have := (hk h.1).1; omega)]
    exact kids_writes (item_writes valid d) _ x.ks (hx.2.2.2.2 (by omega)) (fun h => hk (by simpa using h)) _ _ _ (by omega)
theorem enc_writes {valid : List UInt8 → Bool} {x : CI} (h : Right valid 8 x) : (encS valid x).2 = 0 ∨ (encS valid x).2 = 14 ∨ (encS valid x).2 = 3 := by
  have := item_writes valid 8 x ⟨[], 0⟩ h
  unfold encS
  simp only
  split
  · rcases this with h | h
    · rename_i h'; exact absurd h h'
    · exact .inr (.inl h)
  · split
    · exact .inr (.inr rfl)
    · exact .inl rfl
/-! ### Made's items -/
theorem leaf_b (p : CI) (h : (leafS p).k = 4) : Go.Lib.validD (leafS p).b = true := by
  have hk := (leaf_k p).1
  rw [h] at hk
  unfold leafS
  rw [if_neg (by omega), if_neg (by omega), if_pos hk.symm]
  exact runesB_valid _
theorem leaf_right (p : CI) : Right Go.Lib.validD 1 (leafS p) := by
  obtain ⟨h1, h2⟩ := leaf_k p
  refine ⟨by omega, by omega, leaf_b p, fun _ => ?_, fun _ y hy => ?_⟩
  · rw [h2]; exact ⟨rfl, fun j hj => absurd hj (Nat.not_lt_zero _)⟩
  · rw [h2] at hy; cases hy
theorem key_plain (x : CI) : plainS (leafS (keyP x)) = true := by
  have h := (leaf_k (keyP x)).1
  have : (keyP x).k = x.k % 4 := rfl
  unfold plainS
  rw [h, this]
  simp; omega
theorem ahead_bad {x y : CI} (hx : plainS x = true) : badO x y = false ↔ aheadS x y = true := by
  unfold badO
  have := @order_ahead x y hx
  cases h : aheadS x y with
  | true => simp only [decide_eq_false_iff_not]; exact ⟨fun _ => trivial, fun _ h2 => by rw [this.1 h2] at h; cases h⟩
  | false => simp only [decide_eq_false_iff_not]; exact ⟨fun h2 => absurd (this.2 h) h2, fun h2 => (by cases h2)⟩
theorem insAt_prev (l : List CI) (key : CI) : ∀ (f i : Nat), i % 2 = 0 → (0 < i → aheadS (l.getD (i - 2) default) key = true) → 0 < insAt l key f i → aheadS (l.getD (insAt l key f i - 2) default) key = true
  | 0, i, h, hp, h0 => hp h0
  | f + 1, i, h, hp, h0 => by
    simp only [insAt] at h0 ⊢
    split
    · rename_i hc
      rw [if_pos hc] at h0
      exact insAt_prev l key f (i + 2) (by omega) (fun _ => by simpa using hc.2) h0
    · rename_i hc
      rw [if_neg hc] at h0
      exact hp h0
theorem ins_keys {l : List CI} (hl : KeysOk l) {key value : CI} (hk : plainS key = true) : KeysOk (insS key value l) := by
  obtain ⟨l2, lk⟩ := hl
  have hI2 := insAt_even l key (l.length + 1) 0 rfl
  have hIl := insAt_le l key l2 (l.length + 1) 0 rfl (Nat.zero_le _)
  have hprev := insAt_prev l key (l.length + 1) 0 rfl (fun h => absurd h (Nat.lt_irrefl _))
  unfold insS
  generalize insAt l key (l.length + 1) 0 = I at *
  split
  · rename_i hc
    have hlen : (l.take I ++ key :: value :: l.drop I).length = l.length + 2 := by
      simp only [List.length_append, List.length_cons, List.length_take, List.length_drop]; omega
    have g1 : ∀ j, j < I → (l.take I ++ key :: value :: l.drop I).getD j default = l.getD j default := by
      intro j hj
      rw [List.getD_eq_getElem?_getD, List.getD_eq_getElem?_getD, List.getElem?_append_left (by rw [List.length_take]; omega), List.getElem?_take, if_pos hj]
    have g2 : (l.take I ++ key :: value :: l.drop I).getD I default = key := by
      rw [List.getD_eq_getElem?_getD, List.getElem?_append_right (by rw [List.length_take]; omega), List.length_take, show I - min I l.length = 0 by omega]
      rfl
    have g3 : ∀ j, I + 2 ≤ j → (l.take I ++ key :: value :: l.drop I).getD j default = l.getD (j - 2) default := by
      intro j hj
      rw [List.getD_eq_getElem?_getD, List.getD_eq_getElem?_getD, List.getElem?_append_right (by rw [List.length_take]; omega), List.length_take, show j - min I l.length = (j - I - 2) + 1 + 1 by omega,
        List.getElem?_cons_succ, List.getElem?_cons_succ, List.getElem?_drop, show I + (j - I - 2) = j - 2 by omega]
    refine ⟨by omega, fun j hj hj2 => ?_⟩
    rw [hlen] at hj
    rcases Nat.lt_trichotomy j I with h | h | h
    · rw [g1 j h, g1 (j - 2) (by omega)]
      exact lk j (by omega) hj2
    · subst h
      rw [g2]
      refine ⟨hk, fun h0 => ?_⟩
      rw [g1 _ (by omega)]
      have hp := lk (j - 2) (by omega) (by omega)
      exact (ahead_bad hp.1).2 (hprev h0)
    · rw [g3 j (by omega)]
      have hp := lk (j - 2) (by omega) (by omega)
      refine ⟨hp.1, fun h0 => ?_⟩
      by_cases h2 : j = I + 2
      · subst h2
        rw [show I + 2 - 2 = I by omega, g2]
        have : I ≠ l.length := by omega
        exact (ahead_bad hk).2 (hc.resolve_left this)
      · rw [g3 (j - 2) (by omega)]
        exact hp.2 (by omega)
  · exact ⟨l2, lk⟩
theorem fold_keys (made : CI → CI) : ∀ (xs l : List CI), KeysOk l → KeysOk (foldS made xs l)
  | [], l, h => h
  | x :: xs, l, h => fold_keys made xs _ (ins_keys h (key_plain x))
theorem Right.one (d : Nat) {x : CI} (h : Right Go.Lib.validD 1 x) : Right Go.Lib.validD (d + 1) x := by
  induction d with
  | zero => exact h
  | succ d ih => exact ih.up
theorem made_right : ∀ (d : Nat) (p : CI), Right Go.Lib.validD (d + 1) (madeS d p)
  | 0, p => leaf_right p
  | d + 1, p => by
    simp only [madeS]
    split
    · refine ⟨by show 1 ≤ 5; decide, by show 5 ≤ 9; decide, fun h => (by cases h), fun h => (by cases h), fun _ y hy => ?_⟩
      obtain ⟨z, _, rfl⟩ := List.mem_map.1 (show y ∈ (p.ks.take 8).map (madeS d) from hy)
      exact made_right d z
    split
    · refine ⟨by show 1 ≤ 6; decide, by show 6 ≤ 9; decide, fun h => (by cases h), fun _ => fold_keys (madeS d) (p.ks.take 8) [] ⟨rfl, fun j hj => absurd hj (Nat.not_lt_zero _)⟩, fun _ y hy => ?_⟩
      exact fold_mem (madeS d) (Right Go.Lib.validD (d + 1)) (p.ks.take 8) [] (fun x _ => ⟨Right.one d (leaf_right _), made_right d x⟩) (fun y hy => by cases hy) y hy
    · exact Right.one (d + 1) (leaf_right p)
end Go.Proofs.YtijcpdgfbboamaaDoor
