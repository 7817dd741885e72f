/- Numbers of 64 bits a digit, and of 16: the same number. -/
import Derived.Test.YtedjcbdhafmjiaaVsCNat2
open Go Go.VS
namespace Go.Proofs.Ytedjcbdhafmjiaa
set_option linter.unusedVariables false
set_option linter.unusedSimpArgs false
/-! ### The same number -/
theorem strip_all {p : Int → Prop} : ∀ {l : List Int}, (∀ z ∈ l, p z) → ∀ z ∈ strip l, p z
  | [], h, z, hz => by simp [strip] at hz
  | a :: l, h, z, hz => by
    simp only [strip] at hz
    split at hz
    · simp at hz
    · rcases List.mem_cons.1 hz with rfl | hz
      · exact h _ (by simp)
      · exact strip_all (fun y hy => h y (by simp [hy])) z hz
theorem raw16_bd (bs : List UInt8) : ∀ z ∈ raw16 bs, 0 ≤ z ∧ z ≤ 65535 := by
  intro z hz
  unfold raw16 at hz
  obtain ⟨j, _, rfl⟩ := List.mem_map.1 hz
  have h1 := leAt_bd bs (2 * j)
  have h2 := leAt_bd bs (2 * j + 1)
  unfold d16
  omega
theorem getD_snoc {l : List Int} {a : Int} {i : Nat} : (l ++ [a]).getD i default = if i < l.length then l.getD i default else if i = l.length then a else default := by
  by_cases h : i < l.length
  · rw [if_pos h]; simp [List.getD_eq_getElem?_getD, List.getElem?_append_left h]
  · rw [if_neg h]
    by_cases h2 : i = l.length
    · rw [if_pos h2]; subst h2; simp [List.getD_eq_getElem?_getD]
    · rw [if_neg h2]
      have : (l ++ [a]).length ≤ i := by simp; omega
      simp [List.getD_eq_getElem?_getD, List.getElem?_eq_none this]
theorem group_snoc0 (l : List Int) : strip (group4 (l ++ [0])) = strip (group4 l) := by
  have hg : ∀ j, g4 (l ++ [0]) j = g4 l j := by
    intro j
    have h : ∀ i, (l ++ [0]).getD i default = l.getD i default := by
      intro i
      rw [getD_snoc]
      by_cases h : i < l.length
      · rw [if_pos h]
      · rw [if_neg h]
        have : l.getD i default = 0 := by simp [List.getD_eq_getElem?_getD, Nat.not_lt.1 h]
        rw [this]
        split <;> rfl
    unfold g4
    simp only [h]
  unfold group4
  simp only [List.length_append, List.length_cons, List.length_nil]
  by_cases hm : l.length % 4 = 0
  · have e1 : (l.length + (0 + 1) + 3) / 4 = (l.length + 3) / 4 + 1 := by omega
    rw [e1, List.range_succ, List.map_append]
    have e2 : g4 (l ++ [0]) ((l.length + 3) / 4) = 0 := by
      rw [hg]
      have h : ∀ i, l.length ≤ i → l.getD i default = 0 := fun i hi => by simp [List.getD_eq_getElem?_getD, hi]
      unfold g4
      rw [h _ (by omega), h _ (by omega), h _ (by omega), h _ (by omega)]
      rfl
    simp only [List.map_cons, List.map_nil, e2]
    rw [strip_snoc0]
    congr 1
    exact List.map_congr_left fun j _ => hg j
  · have e1 : (l.length + (0 + 1) + 3) / 4 = (l.length + 3) / 4 := by omega
    rw [e1]
    congr 1
    exact List.map_congr_left fun j _ => hg j
theorem group_snoc {l : List Int} {a : Int} (hl : ∀ z ∈ l, 0 ≤ z ∧ z ≤ 65535) (ha : 0 < a) : strip (group4 (l ++ [a])) = group4 (l ++ [a]) := by
  unfold group4
  have e1 : ((l ++ [a]).length + 3) / 4 = l.length / 4 + 1 := by simp; omega
  rw [e1, List.range_succ, List.map_append]
  have hb : ∀ i, 0 ≤ (l ++ [a]).getD i default := by
    intro i
    rw [getD_snoc]
    split
    · rename_i h
      have : l.getD i default = l[i] := by simp [List.getD_eq_getElem?_getD, h]
      rw [this]; exact (hl _ (List.getElem_mem h)).1
    · split
      · omega
      · exact Int.le_refl 0
  have hlast : (l ++ [a]).getD l.length default = a := by rw [getD_snoc, if_neg (by omega), if_pos rfl]
  refine strip_snoc _ _ ?_
  unfold g4
  have b0 := hb (4 * (l.length / 4))
  have b1 := hb (4 * (l.length / 4) + 1)
  have b2 := hb (4 * (l.length / 4) + 2)
  have b3 := hb (4 * (l.length / 4) + 3)
  obtain h | h | h | h : l.length = 4 * (l.length / 4) ∨ l.length = 4 * (l.length / 4) + 1 ∨ l.length = 4 * (l.length / 4) + 2 ∨ l.length = 4 * (l.length / 4) + 3 := by omega
  · have hh : (l ++ [a]).getD (4 * (l.length / 4)) default = a := by rw [← h]; exact hlast
    omega
  · have hh : (l ++ [a]).getD (4 * (l.length / 4) + 1) default = a := by rw [← h]; exact hlast
    omega
  · have hh : (l ++ [a]).getD (4 * (l.length / 4) + 2) default = a := by rw [← h]; exact hlast
    omega
  · have hh : (l ++ [a]).getD (4 * (l.length / 4) + 3) default = a := by rw [← h]; exact hlast
    omega
theorem group_strip : ∀ (n : Nat) (l : List Int), l.length = n → (∀ z ∈ l, 0 ≤ z ∧ z ≤ 65535) → group4 (strip l) = strip (group4 l)
  | 0, l, hn, _ => by
    have : l = [] := List.length_eq_zero_iff.1 hn
    subst this
    rfl
  | n + 1, l, hn, hl => by
    have hne : l ≠ [] := by intro e; subst e; simp at hn
    obtain ⟨l', a, rfl⟩ : ∃ l' a, l = l' ++ [a] := ⟨l.dropLast, l.getLast hne, (List.dropLast_concat_getLast hne).symm⟩
    have hl' : ∀ z ∈ l', 0 ≤ z ∧ z ≤ 65535 := fun z hz => hl z (by simp [hz])
    by_cases ha : a = 0
    · subst ha
      rw [strip_snoc0, group_snoc0]
      exact group_strip n l' (by simpa using hn) hl'
    · have := (hl a (by simp)).1
      rw [strip_snoc _ _ ha, group_snoc hl' (by omega)]
theorem group_raw (bs : List UInt8) : group4 (raw16 bs) = raw64 bs := by
  have hd : ∀ s, (raw16 bs).getD s default = leAt bs (2 * s) + 256 * leAt bs (2 * s + 1) := by
    intro s
    by_cases h : s < (bs.length + 1) / 2
    · exact getD_range _ h
    · have h1 : (raw16 bs).length ≤ s := by simp [raw16]; omega
      have e1 : (raw16 bs).getD s default = 0 := by simp [List.getD_eq_getElem?_getD, h1]
      rw [e1]
      unfold leAt
      rw [if_neg (by omega), if_neg (by omega)]
      rfl
  unfold group4 raw64
  have e : ((raw16 bs).length + 3) / 4 = (bs.length + 7) / 8 := by simp [raw16]; omega
  rw [e]
  apply List.map_congr_left
  intro j _
  unfold g4 d64
  rw [hd, hd, hd, hd]
  have q : ∀ k, 2 * (4 * j + k) = 8 * j + 2 * k := fun k => by omega
  have q0 : 2 * (4 * j) = 8 * j := by omega
  rw [q, q, q, q0]
  simp only [Nat.reduceMul, Nat.add_assoc, Nat.reduceAdd]
  omega
theorem same_number (bs : List UInt8) : group4 (strip (raw16 bs)) = strip (raw64 bs) := by
  rw [group_strip _ _ rfl (raw16_bd bs), group_raw]
end Go.Proofs.Ytedjcbdhafmjiaa
