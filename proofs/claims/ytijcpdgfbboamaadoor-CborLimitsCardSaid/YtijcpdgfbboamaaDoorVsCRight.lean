/- Runes written as bytes are valid bytes: plain law, no program in sight. -/
import Derived.Test.YtijcpdgfbboamaaDoorVsCArgs
import Derived.Lib.ValidAsc
import Derived.Test.YtijcpdgfbboamaaDoorVsCDecL
open Go Go.VS Go.Lib
namespace Go.Proofs.YtijcpdgfbboamaaDoor
set_option linter.unusedVariables false
theorem valid_step4 (l t : List UInt8) (k : Nat) (c : Nat) (hd : decodeL l = (c, k)) (hne : l ≠ []) (hk : l.drop k = t) (hc : ¬ (c = 65533 ∧ k = 1)) : validD l = validD t := by
  rw [validD_step l hne, hd]
  simp only
  rw [if_neg hc, hk]
theorem valid_enc (r : Int) (t : List UInt8) : validD ((Utf8.encode r).data.toList ++ t) = validD t := by
  have hx : ∃ c, (if Utf8.valid r = true then r.toNat else Utf8.runeError) = c ∧ (c < 55296 ∨ (57344 ≤ c ∧ c ≤ 1114111)) := by
    refine ⟨_, rfl, ?_⟩
    split
    · rename_i h
      simp only [Utf8.valid, Bool.or_eq_true, Bool.and_eq_true, decide_eq_true_eq] at h
      omega
    · unfold Utf8.runeError; omega
  obtain ⟨c, hc, hr⟩ := hx
  unfold Utf8.encode
  simp only
  rw [hc]
  have o : ∀ x : Nat, x < 256 → (UInt8.ofNat x).toNat = x := fun x hx => by rw [UInt8.toNat_ofNat']; omega
  by_cases h1 : c < 128
  · rw [if_pos h1]
    exact validD_cons _ _ (by rw [o c (by omega)]; exact h1)
  rw [if_neg h1]
  by_cases h2 : c < 2048
  · rw [if_pos h2]
    refine valid_step4 _ t 2 c ?_ (by simp) (by simp) (by omega)
    rw [decodeL_N]
    simp only [List.cons_append, List.nil_append, List.length_cons, List.getD_cons_zero, List.getD_cons_succ]
    rw [o _ (by omega), o _ (by omega)]
    unfold decodeN
    rw [if_neg (by omega), if_pos (by omega)]
    rw [if_pos (by omega)]
    congr 1; omega
  rw [if_neg h2]
  by_cases h3 : c < 65536
  · rw [if_pos h3]
    refine valid_step4 _ t 3 c ?_ (by simp) (by simp) (by omega)
    rw [decodeL_N]
    simp only [List.cons_append, List.nil_append, List.length_cons, List.getD_cons_zero, List.getD_cons_succ]
    rw [o _ (by omega), o _ (by omega), o _ (by omega)]
    unfold decodeN
    rw [if_neg (by omega), if_neg (by omega), if_pos (by omega)]
    rw [if_pos (by omega)]
    congr 1; omega
  · rw [if_neg h3]
    refine valid_step4 _ t 4 c ?_ (by simp) (by simp) (by omega)
    rw [decodeL_N]
    simp only [List.cons_append, List.nil_append, List.length_cons, List.getD_cons_zero, List.getD_cons_succ]
    rw [o _ (by omega), o _ (by omega), o _ (by omega), o _ (by omega)]
    unfold decodeN
    rw [if_neg (by omega), if_neg (by omega), if_neg (by omega), if_pos (by omega)]
    rw [if_pos (by omega)]
    congr 1; omega
theorem runes_bytes : ∀ (ns : List Int) (s : ByteArray), (ns.foldl (fun r n => r ++ Utf8.encode n) s).data.toList = s.data.toList ++ ns.flatMap fun n => (Utf8.encode n).data.toList
  | [], s => by simp
  | n :: ns, s => by
    rw [List.foldl_cons, runes_bytes ns, List.flatMap_cons]
    simp
theorem valid_runes (ns : List Int) : validD (runesBytes ns).data.toList = true := by
  unfold runesBytes
  rw [runes_bytes]
  have go : ∀ ns : List Int, validD (ns.flatMap fun n => (Utf8.encode n).data.toList) = true := by
    intro ns
    induction ns with
    | nil => rfl
    | cons n ns ih => rw [List.flatMap_cons, valid_enc, ih]
  exact go ns
theorem runesB_valid (b : List UInt8) : validD (runesB b) = true := valid_runes _
theorem runesB_len (b : List UInt8) (h : b.length ≤ 300) : (runesB b).length ≤ 1200 := by
  have h1 := runesBytes_size_le (runesS b)
  have h2 : (runesS b).length ≤ b.length := runesFromS_len _ _ _
  have h3 : (runesBytes (runesS b)).data.toList.length = (runesBytes (runesS b)).size := by simp
  unfold runesB
  omega
end Go.Proofs.YtijcpdgfbboamaaDoor
open Go Go.VS
namespace Go.Proofs.YtijcpdgfbboamaaDoor
set_option linter.unusedVariables false
/-- Keys that rise, from a place on. -/
def KeysOk (ks : List CI) : Prop := ks.length % 2 = 0 ∧ ∀ j, j < ks.length → j % 2 = 0 → plainS (ks.getD j default) = true ∧ (0 < j → badO (ks.getD (j - 2) default) (ks.getD j default) = false)
/-- An item that is right. -/
def Right (valid : List UInt8 → Bool) : Nat → CI → Prop
  | 0, x => 1 ≤ x.k ∧ x.k ≤ 9 ∧ (x.k = 4 → valid x.b = true) ∧ x.k ≠ 5 ∧ x.k ≠ 6
  | d + 1, x => 1 ≤ x.k ∧ x.k ≤ 9 ∧ (x.k = 4 → valid x.b = true) ∧ (x.k = 6 → KeysOk x.ks) ∧ (x.k = 5 ∨ x.k = 6 → ∀ y ∈ x.ks, Right valid d y)
theorem Right.up (valid : List UInt8 → Bool) : ∀ (d : Nat) (x : CI), Right valid d x → Right valid (d + 1) x
  | 0, x, h => ⟨h.1, h.2.1, h.2.2.1, fun e => absurd e h.2.2.2.2, fun e => by rcases e with e | e; exact absurd e h.2.2.2.1; exact absurd e h.2.2.2.2⟩
  | d + 1, x, h => ⟨h.1, h.2.1, h.2.2.1, h.2.2.2.1, fun e y hy => Right.up valid d y (h.2.2.2.2 e y hy)⟩
/-- Is it written, or are there too many? -/
def Writes (it : CI → WS → Nat × WS) (P : CI → Prop) : Prop := ∀ x w, P x → (it x w).1 = 0 ∨ (it x w).1 = 14
theorem kids_writes {it : CI → WS → Nat × WS} {P : CI → Prop} (W : Writes it P) (pair : Bool) (ks : List CI) (hp : ∀ y ∈ ks, P y) (hk : pair = true → KeysOk ks) :
    ∀ (n k : Nat) (w : WS), k + n = ks.length → (kidsW it badO pair ks n k w).1 = 0 ∨ (kidsW it badO pair ks n k w).1 = 14
  | 0, k, w, _ => .inl rfl
  | n + 1, k, w, h => by
    have hlt : k < ks.length := by omega
    have hm : ks.getD k default ∈ ks := by
      rw [List.getD_eq_getElem?_getD, List.getElem?_eq_getElem hlt]
      exact List.getElem_mem _
    simp only [kidsW]
    rw [if_neg (by
      rintro ⟨a, b, c⟩
      rw [((hk a).2 k hlt b).1] at c; cases c)]
    rw [if_neg (by
      rintro ⟨a, b, c, e⟩
      rw [((hk a).2 k hlt b).2 c] at e; cases e)]
    by_cases he : (it (ks.getD k default) w).1 ≠ 0
    · rw [if_pos he]
      rcases W _ w (hp _ hm) with h' | h'
      · exact absurd h' he
      · exact .inr h'
    · rw [if_neg he]
      exact kids_writes W pair ks hp hk n (k + 1) _ (by omega)
theorem item_writes (valid : List UInt8 → Bool) : ∀ d, Writes (itemW valid badO d) (Right valid d) := by
  intro d x w hx
  have h1 : 1 ≤ x.k := by cases d with
    | zero => exact hx.1
    | succ d => exact hx.1
  have h9 : x.k ≤ 9 := by cases d with
    | zero => exact hx.2.1
    | succ d => exact hx.2.1
  have h4 : x.k = 4 → valid x.b = true := by cases d with
    | zero => exact hx.2.2.1
    | succ d => exact hx.2.2.1
  unfold itemW
  simp only
  by_cases c1 : 512 < w.items + 1
  · rw [if_pos c1]; exact .inr rfl
  rw [if_neg c1]
  by_cases c2 : x.k = 1 ∨ x.k = 2
  · rw [if_pos c2]; exact .inl rfl
  rw [if_neg c2]
  by_cases c3 : x.k = 3 ∨ x.k = 4
  · rw [if_pos c3, if_neg (fun h => by rw [h4 h.1] at h; cases h.2)]; exact .inl rfl
  rw [if_neg c3]
  by_cases c5 : x.k = 7 ∨ x.k = 8 ∨ x.k = 9
  · rw [if_pos c5]; exact .inl rfl
  rw [if_neg c5, if_pos (by omega)]
  cases d with
  | zero => exact absurd (show x.k = 5 ∨ x.k = 6 by omega) (by have := hx.2.2.2; omega)
  | succ d =>
    simp only
    have hk := hx.2.2.2.1
    rw [if_neg (fun h => by have := (hk h.1).1; omega)]
    exact kids_writes (item_writes valid d) _ x.ks (hx.2.2.2.2 (by omega)) (fun h => hk (by simpa using h)) _ _ _ (by omega)
theorem enc_writes {valid : List UInt8 → Bool} {x : CI} (h : Right valid 8 x) : (encS valid x).2 = 0 ∨ (encS valid x).2 = 14 ∨ (encS valid x).2 = 3 := by
  have := item_writes valid 8 x ⟨[], 0⟩ h
  unfold encS
  simp only
  split
  · rcases this with h | h
    · rename_i h'; exact absurd h h'
    · exact .inr (.inl h)
  · split
    · exact .inr (.inr rfl)
    · exact .inl rfl
/-! ### Made's items -/
theorem leaf_k (p : CI) : (leafS p).k = 1 + p.k % 9 ∧ (leafS p).ks = [] := by
  unfold leafS
  split
  · exact ⟨rfl, rfl⟩
  split
  · rename_i h; exact ⟨h.symm, rfl⟩
  split
  · rename_i h; exact ⟨h.symm, rfl⟩
  · exact ⟨rfl, rfl⟩
theorem leaf_b (p : CI) (h : (leafS p).k = 4) : Go.Lib.validD (leafS p).b = true := by
  have hk := (leaf_k p).1
  rw [h] at hk
  unfold leafS
  rw [if_neg (by omega), if_neg (by omega), if_pos hk.symm]
  exact runesB_valid _
theorem leaf_right (p : CI) : Right Go.Lib.validD 1 (leafS p) := by
  obtain ⟨h1, h2⟩ := leaf_k p
  refine ⟨by omega, by omega, leaf_b p, fun _ => ?_, fun _ y hy => ?_⟩
  · rw [h2]; exact ⟨rfl, fun j hj => absurd hj (Nat.not_lt_zero _)⟩
  · rw [h2] at hy; cases hy
theorem leaf_fit (p : CI) (hp : Plan0 p) (d : Nat) : Fit d (leafS p) := by
  obtain ⟨h1, h2⟩ := leaf_k p
  obtain ⟨g1, g2, g3, g4, g5⟩ := hp
  refine Fit.leaf d h2 ?_
  refine ⟨by omega, ?_, ?_, by rw [h2]; exact Nat.zero_le _, ?_⟩
  · unfold leafS
    (repeat' split) <;> first | exact g2 | (show 0 < _; decide)
  · unfold leafS
    split
    · exact Nat.zero_le _
    split
    · show (p.b.take 300).length ≤ _; rw [List.length_take]; omega
    split
    · show (runesB _).length ≤ _
      have := runesB_len (p.b.take 300) (by rw [List.length_take]; omega)
      omega
    · exact Nat.zero_le _
  · unfold leafS
    split
    · exact fun _ => rfl
    split
    · intro h; show p.b.take 300 = []; rw [g5 h]; rfl
    split
    · intro h; cases h
    · exact fun _ => rfl
theorem key_plain (x : CI) : plainS (leafS (keyP x)) = true := by
  have h := (leaf_k (keyP x)).1
  have : (keyP x).k = x.k % 4 := rfl
  unfold plainS
  rw [h, this]
  simp; omega
theorem ahead_bad {x y : CI} (hx : plainS x = true) : badO x y = false ↔ aheadS x y = true := by
  unfold badO
  have := @order_ahead x y hx
  cases h : aheadS x y with
  | true => simp only [decide_eq_false_iff_not]; exact ⟨fun _ => trivial, fun _ h2 => by rw [this.1 h2] at h; cases h⟩
  | false => simp only [decide_eq_false_iff_not]; exact ⟨fun h2 => absurd (this.2 h) h2, fun h2 => (by cases h2)⟩
theorem insAt_prev (l : List CI) (key : CI) : ∀ (f i : Nat), i % 2 = 0 → (0 < i → aheadS (l.getD (i - 2) default) key = true) → 0 < insAt l key f i → aheadS (l.getD (insAt l key f i - 2) default) key = true
  | 0, i, h, hp, h0 => hp h0
  | f + 1, i, h, hp, h0 => by
    simp only [insAt] at h0 ⊢
    split
    · rename_i hc
      rw [if_pos hc] at h0
      exact insAt_prev l key f (i + 2) (by omega) (fun _ => by simpa using hc.2) h0
    · rename_i hc
      rw [if_neg hc] at h0
      exact hp h0
theorem ins_keys {l : List CI} (hl : KeysOk l) {key value : CI} (hk : plainS key = true) : KeysOk (insS key value l) := by
  obtain ⟨l2, lk⟩ := hl
  have hI2 := insAt_even l key (l.length + 1) 0 rfl
  have hIl := insAt_le l key l2 (l.length + 1) 0 rfl (Nat.zero_le _)
  have hprev := insAt_prev l key (l.length + 1) 0 rfl (fun h => absurd h (Nat.lt_irrefl _))
  unfold insS
  generalize insAt l key (l.length + 1) 0 = I at *
  split
  · rename_i hc
    have hlen : (l.take I ++ key :: value :: l.drop I).length = l.length + 2 := by
      simp only [List.length_append, List.length_cons, List.length_take, List.length_drop]; omega
    have g1 : ∀ j, j < I → (l.take I ++ key :: value :: l.drop I).getD j default = l.getD j default := by
      intro j hj
      rw [List.getD_eq_getElem?_getD, List.getD_eq_getElem?_getD, List.getElem?_append_left (by rw [List.length_take]; omega), List.getElem?_take, if_pos hj]
    have g2 : (l.take I ++ key :: value :: l.drop I).getD I default = key := by
      rw [List.getD_eq_getElem?_getD, List.getElem?_append_right (by rw [List.length_take]; omega), List.length_take, show I - min I l.length = 0 by omega]
      rfl
    have g3 : ∀ j, I + 2 ≤ j → (l.take I ++ key :: value :: l.drop I).getD j default = l.getD (j - 2) default := by
      intro j hj
      rw [List.getD_eq_getElem?_getD, List.getD_eq_getElem?_getD, List.getElem?_append_right (by rw [List.length_take]; omega), List.length_take, show j - min I l.length = (j - I - 2) + 1 + 1 by omega,
        List.getElem?_cons_succ, List.getElem?_cons_succ, List.getElem?_drop, show I + (j - I - 2) = j - 2 by omega]
    refine ⟨by omega, fun j hj hj2 => ?_⟩
    rw [hlen] at hj
    rcases Nat.lt_trichotomy j I with h | h | h
    · rw [g1 j h, g1 (j - 2) (by omega)]
      exact lk j (by omega) hj2
    · subst h
      rw [g2]
      refine ⟨hk, fun h0 => ?_⟩
      rw [g1 _ (by omega)]
      have hp := lk (j - 2) (by omega) (by omega)
      exact (ahead_bad hp.1).2 (hprev h0)
    · rw [g3 j (by omega)]
      have hp := lk (j - 2) (by omega) (by omega)
      refine ⟨hp.1, fun h0 => ?_⟩
      by_cases h2 : j = I + 2
      · subst h2
        rw [show I + 2 - 2 = I by omega, g2]
        have : I ≠ l.length := by omega
        exact (ahead_bad hk).2 (hc.resolve_left this)
      · rw [g3 (j - 2) (by omega)]
        exact hp.2 (by omega)
  · exact ⟨l2, lk⟩
theorem ins_mem {key value y : CI} {l : List CI} (h : y ∈ insS key value l) : y = key ∨ y = value ∨ y ∈ l := by
  unfold insS at h
  split at h
  · rcases List.mem_append.1 h with h | h
    · exact .inr (.inr (List.mem_of_mem_take h))
    · simp only [List.mem_cons] at h
      rcases h with h | h | h
      · exact .inl h
      · exact .inr (.inl h)
      · exact .inr (.inr (List.mem_of_mem_drop h))
  · exact .inr (.inr h)
theorem fold_keys (made : CI → CI) : ∀ (xs l : List CI), KeysOk l → KeysOk (foldS made xs l)
  | [], l, h => h
  | x :: xs, l, h => fold_keys made xs _ (ins_keys h (key_plain x))
theorem fold_mem (made : CI → CI) (P : CI → Prop) : ∀ (xs l : List CI), (∀ x ∈ xs, P (leafS (keyP x)) ∧ P (made x)) → (∀ y ∈ l, P y) → ∀ y ∈ foldS made xs l, P y
  | [], l, h, hl => hl
  | x :: xs, l, h, hl => fold_mem made P xs _ (fun z hz => h z (by simp [hz])) (fun y hy => by
    obtain ⟨h1, h2⟩ := h x (by simp)
    rcases ins_mem hy with rfl | rfl | hy
    · exact h1
    · exact h2
    · exact hl y hy)
theorem fold_len (made : CI → CI) : ∀ (xs l : List CI), l.length % 2 = 0 → (foldS made xs l).length ≤ l.length + 2 * xs.length
  | [], l, h => by simp [foldS]
  | x :: xs, l, h => by
    have h1 := insS_even (leafS (keyP x)) (made x) l h
    have h2 := fold_len made xs (insS (leafS (keyP x)) (made x) l) h1.1
    simp only [foldS, List.length_cons]
    omega
theorem Right.one (d : Nat) {x : CI} (h : Right Go.Lib.validD 1 x) : Right Go.Lib.validD (d + 1) x := by
  induction d with
  | zero => exact h
  | succ d ih => exact ih.up
theorem made_right : ∀ (d : Nat) (p : CI), Right Go.Lib.validD (d + 1) (madeS d p)
  | 0, p => leaf_right p
  | d + 1, p => by
    simp only [madeS]
    split
    · refine ⟨by show 1 ≤ 5; decide, by show 5 ≤ 9; decide, fun h => (by cases h), fun h => (by cases h), fun _ y hy => ?_⟩
      obtain ⟨z, _, rfl⟩ := List.mem_map.1 (show y ∈ (p.ks.take 8).map (madeS d) from hy)
      exact made_right d z
    split
    · refine ⟨by show 1 ≤ 6; decide, by show 6 ≤ 9; decide, fun h => (by cases h), fun _ => fold_keys (madeS d) (p.ks.take 8) [] ⟨rfl, fun j hj => absurd hj (Nat.not_lt_zero _)⟩, fun _ y hy => ?_⟩
      exact fold_mem (madeS d) (Right Go.Lib.validD (d + 1)) (p.ks.take 8) [] (fun x _ => ⟨Right.one d (leaf_right _), made_right d x⟩) (fun y hy => by cases hy) y hy
    · exact Right.one (d + 1) (leaf_right p)
theorem Plan0.key {x : CI} (h : Plan0 x) : Plan0 (keyP x) := by
  obtain ⟨g1, g2, g3, g4, g5⟩ := h
  exact ⟨by show x.k % 4 < 256; omega, g2, g3, by show 0 ≤ _; exact Nat.zero_le _, g5⟩
theorem made_fit (e : Nat) : ∀ (d : Nat) (p : CI), PlanD (d + 1) p → Fit e (madeS d p)
  | 0, p, hp => leaf_fit p hp.1 e
  | d + 1, p, hp => by
    obtain ⟨h0, hq⟩ := hp
    have hx : ∀ x ∈ p.ks.take 8, PlanD (d + 1) x := fun x hx => hq x (List.mem_of_mem_take hx)
    have ht : (p.ks.take 8).length ≤ 8 := by rw [List.length_take]; omega
    have kids : ∀ (k : Nat) (ks : List CI), k < 256 → ks.length ≤ 16 → (∀ (f : Nat), ∀ y ∈ ks, Fit f y) → Fit e (.mk k 0 true [] ks.isEmpty ks) := by
      intro k ks hk hl hy
      have hL : Lim (.mk k 0 true [] ks.isEmpty ks) := ⟨hk, by show 0 < _; decide, Nat.zero_le _, by show ks.length ≤ _; omega, fun _ => rfl⟩
      cases e with
      | zero => exact hL
      | succ e => exact ⟨hL, hy e⟩
    simp only [madeS]
    split
    · refine kids 5 _ (by decide) (by rw [List.length_map]; omega) (fun f y hy => ?_)
      obtain ⟨z, hz, rfl⟩ := List.mem_map.1 hy
      exact made_fit f d z (hx z hz)
    split
    · have hl := fold_len (madeS d) (p.ks.take 8) [] rfl
      refine kids 6 _ (by decide) (by simp only [List.length_nil] at hl; omega) (fun f => ?_)
      exact fold_mem (madeS d) (Fit f) (p.ks.take 8) [] (fun x hxx => ⟨leaf_fit _ (Plan0.key (hx x hxx).1) f, made_fit f d x (hx x hxx)⟩) (fun y hy => by cases hy)
    · exact leaf_fit p h0 e
end Go.Proofs.YtijcpdgfbboamaaDoor
