/- How a reader of JSON goes over a value's text: what stands for itself, numbers, words. -/
import Derived.Test.YtfemncfhiihckaaDoorVsPVal
open Go Go.VS
namespace Go.Proofs.YtfemncfhiihckaaDoor
set_option linter.unusedVariables false
set_option linter.unusedSimpArgs false
set_option maxRecDepth 20000
set_option maxHeartbeats 4000000
theorem drop_lt {b Y : List UInt8} {i : Nat} {c : UInt8} (h : b.drop i = c :: Y) : i < b.length ∧ b.getD i default = c := by
  have hi : i < b.length := by
    rcases Nat.lt_or_ge i b.length with h' | h'
    · exact h'
    · rw [List.drop_of_length_le h'] at h; cases h
  rw [drop_at b i hi] at h
  exact ⟨hi, (List.cons.inj h).1⟩
theorem isP_yes {b Y l : List UInt8} {i : Nat} {c : UInt8} (h : b.drop i = c :: Y) (hc : c ∈ l) : isP b i l = (true, i + 1) := by
  obtain ⟨h1, h2⟩ := drop_lt h
  unfold isP
  rw [if_pos ⟨h1, by rw [h2]; exact hc⟩]
theorem isP_no {b Y l : List UInt8} {i : Nat} (h : b.drop i = Y) (hc : ∀ c, Y.head? = some c → c ∉ l) : isP b i l = (false, i) := by
  unfold isP
  rw [if_neg]
  rintro ⟨h1, h2⟩
  rw [drop_at b i h1] at h
  exact hc _ (by rw [← h]; rfl) h2
theorem digP_eq {b ds Y : List UInt8} {i : Nat} (h : b.drop i = ds ++ Y) (hd : ∀ c ∈ ds, digit c = true) (hY : ∀ c, Y.head? = some c → digit c = false) : digP b i = (decide (0 < ds.length), i + ds.length) := by
  have e : digAt b i = i + ds.length := by
    unfold digAt
    rw [h, takeW ds Y hd hY]
  unfold digP
  rw [e]
  congr 1
  exact decide_eq_decide.2 ⟨fun h => by omega, fun h => by omega⟩
theorem stop_not {X : List UInt8} (h : stopR X) : (∀ c, X.head? = some c → digit c = false) ∧ (∀ c, X.head? = some c → c ∉ ([46] : List UInt8)) ∧ (∀ c, X.head? = some c → c ∉ ([101, 69] : List UInt8)) := by
  have key : ∀ c, X.head? = some c → c = 44 ∨ c = 93 ∨ c = 125 ∨ c = 32 ∨ c = 9 ∨ c = 10 ∨ c = 13 := by
    intro c hc
    rcases h c hc with h | h | h | h
    · simp [h]
    · simp [h]
    · simp [h]
    · simp only [blank, Bool.or_eq_true, beq_iff_eq] at h
      rcases h with ((h | h) | h) | h <;> simp [h]
  refine ⟨fun c hc => ?_, fun c hc => ?_, fun c hc => ?_⟩ <;> rcases key c hc with h | h | h | h | h | h | h <;> subst h <;> decide
theorem drop_add {b P X : List UInt8} {i : Nat} (h : b.drop i = P ++ X) (k : Nat) (hk : k ≤ P.length) : b.drop (i + k) = P.drop k ++ X := by
  rw [← List.drop_drop, h, List.drop_append_of_le_length hk]
theorem num_pos {b X : List UInt8} {i : Nat} (j : Nat) (hX : stopR X) (h : b.drop i = numsT j ++ X) : numP b i = (true, i + (numsT j).length) := by
  obtain ⟨hX1, hX2, hX3⟩ := stop_not hX
  match j, h with
  | 0, h =>
    have a1 : isP b i [45] = (false, i) := isP_no h (fun c hc => by simp [numsT] at hc; subst hc; decide)
    have a2 : digP b i = (true, i + 1) := digP_eq (ds := [48]) h (by simp [digit]) hX1
    have h1 : b.drop (i + 1) = X := drop_add h 1 (by simp [numsT])
    have a3 := isP_no (l := [46]) h1 hX2
    have a4 := isP_no (l := [101, 69]) h1 hX3
    unfold numP numP2 numP4
    simp [a1, a2, a3, a4, numsT]
  | 1, h =>
    have a1 : isP b i [45] = (true, i + 1) := isP_yes h (by simp)
    have h1 : b.drop (i + 1) = [49, 50] ++ X := drop_add h 1 (by simp [numsT])
    have a2 : digP b (i + 1) = (true, i + 1 + 2) := digP_eq (ds := [49, 50]) h1 (by simp [digit]) hX1
    have h2 : b.drop (i + 1 + 2) = X := drop_add h1 2 (by simp)
    have a3 := isP_no (l := [46]) h2 hX2
    have a4 := isP_no (l := [101, 69]) h2 hX3
    have a5 := (drop_lt h1).2
    unfold numP numP2 numP4
    rw [a1]
    simp only [a2, a5]
    simp [a3, a4, numsT]
  | 2, h =>
    have a1 : isP b i [45] = (false, i) := isP_no h (fun c hc => by simp [numsT] at hc; subst hc; decide)
    have a2 : digP b i = (true, i + 1) := digP_eq (ds := [49]) (Y := [46, 53, 101, 43, 51] ++ X) h (by simp [digit]) (fun c hc => by simp at hc; subst hc; decide)
    have h1 : b.drop (i + 1) = [46, 53, 101, 43, 51] ++ X := drop_add h 1 (by simp [numsT])
    have a3 : isP b (i + 1) [46] = (true, i + 1 + 1) := isP_yes h1 (by simp)
    have h2 : b.drop (i + 1 + 1) = [53, 101, 43, 51] ++ X := drop_add h1 1 (by simp)
    have a4 : digP b (i + 1 + 1) = (true, i + 1 + 1 + 1) := digP_eq (ds := [53]) (Y := [101, 43, 51] ++ X) h2 (by simp [digit]) (fun c hc => by simp at hc; subst hc; decide)
    have h3 : b.drop (i + 1 + 1 + 1) = [101, 43, 51] ++ X := drop_add h2 1 (by simp)
    have a5 : isP b (i + 1 + 1 + 1) [101, 69] = (true, i + 1 + 1 + 1 + 1) := isP_yes h3 (by simp)
    have h4 : b.drop (i + 1 + 1 + 1 + 1) = [43, 51] ++ X := drop_add h3 1 (by simp)
    have a6 : isP b (i + 1 + 1 + 1 + 1) [43, 45] = (true, i + 1 + 1 + 1 + 1 + 1) := isP_yes h4 (by simp)
    have h5 : b.drop (i + 1 + 1 + 1 + 1 + 1) = [51] ++ X := drop_add h4 1 (by simp)
    have a7 : digP b (i + 1 + 1 + 1 + 1 + 1) = (true, i + 1 + 1 + 1 + 1 + 1 + 1) := digP_eq (ds := [51]) h5 (by simp [digit]) hX1
    unfold numP numP2 numP4
    simp [a1, a2, a3, a4, a5, a6, a7, numsT]
  | n + 3, h =>
    have h : b.drop i = [49, 48, 69, 45, 50] ++ X := h
    have a1 : isP b i [45] = (false, i) := isP_no h (fun c hc => by simp at hc; subst hc; decide)
    have a2 : digP b i = (true, i + 2) := digP_eq (ds := [49, 48]) (Y := [69, 45, 50] ++ X) h (by simp [digit]) (fun c hc => by simp at hc; subst hc; decide)
    have h1 : b.drop (i + 2) = [69, 45, 50] ++ X := drop_add h 2 (by simp)
    have a3 : isP b (i + 2) [46] = (false, i + 2) := isP_no h1 (fun c hc => by simp at hc; subst hc; decide)
    have a4 : isP b (i + 2) [101, 69] = (true, i + 2 + 1) := isP_yes h1 (by simp)
    have h2 : b.drop (i + 2 + 1) = [45, 50] ++ X := drop_add h1 1 (by simp)
    have a5 : isP b (i + 2 + 1) [43, 45] = (true, i + 2 + 1 + 1) := isP_yes h2 (by simp)
    have h3 : b.drop (i + 2 + 1 + 1) = [50] ++ X := drop_add h2 1 (by simp)
    have a6 : digP b (i + 2 + 1 + 1) = (true, i + 2 + 1 + 1 + 1) := digP_eq (ds := [50]) h3 (by simp [digit]) hX1
    have a7 := (drop_lt (show b.drop i = 49 :: ([48, 69, 45, 50] ++ X) from h)).2
    unfold numP numP2 numP4
    rw [a1]
    simp only [a2, a7]
    simp [a3, a4, a5, a6, numsT]
/-- One step of a value, told by what its body comes to. -/
theorem value_reads {val : RJ → Nat × RJ} {deep : Nat} {c : UInt8} {T : List UInt8} {N : Nat → List JN} (hc : blank c = false) (hN : ∀ base, 1 ≤ (N base).length)
    (hB : ∀ (s : RJ) (X : List UInt8) (base : Nat), s.deep = deep → s.err = 0 → s.nodes.length = base + 1 → base < 256 → At s (c :: (T ++ X)) → stopR X →
      (base + (N base).length ≤ 256 → ∃ M, N base = (bodyS val c s).1 :: M ∧ Aft s (bodyS val c s).2 M X) ∧ (256 < base + (N base).length → (bodyS val c s).2.err = 14)) : Reads (valueS val) deep (c :: T) N := by
  intro s ws X hd he hl h hw hX
  obtain ⟨h1, h2⟩ := here_at he h hw hc
  have hn : (hereS s).2.nodes = s.nodes := by rw [h2.nodes, List.append_nil]
  by_cases h256 : s.nodes.length = 256
  · have hr : roomS s = { (hereS s).2 with err := 14 } := by
      unfold roomS
      rw [if_pos ⟨h2.err, by rw [hn]; omega⟩]
      unfold RJ.fail
      rw [if_pos h2.err]
    have hv : valueS val s = (0, { (hereS s).2 with err := 14 }) := by
      unfold valueS
      rw [hr, if_pos (by simp)]
    have := hN s.nodes.length
    exact ⟨fun hm => by omega, fun _ => by rw [hv]⟩
  have hr : roomS s = (hereS s).2 := by
    unfold roomS
    rw [if_neg (by rw [hn]; omega)]
  have hv : valueS val s = ((hereS s).2.nodes.length, { (bodyS val c { (hereS s).2 with nodes := (hereS s).2.nodes ++ [zeroJ] }).2 with nodes := (bodyS val c { (hereS s).2 with nodes := (hereS s).2.nodes ++ [zeroJ] }).2.nodes.set (hereS s).2.nodes.length (bodyS val c { (hereS s).2 with nodes := (hereS s).2.nodes ++ [zeroJ] }).1 }) := by
    unfold valueS
    rw [hr, if_neg (by rw [h2.err]; simp), h1]
  obtain ⟨q1, q2⟩ := hB { (hereS s).2 with nodes := (hereS s).2.nodes ++ [zeroJ] } X s.nodes.length (h2.deep.trans hd) h2.err (by simp [hn]) (by omega) h2.at_ hX
  refine ⟨fun hm => ?_, fun hm => by rw [hv]; exact q2 hm⟩
  obtain ⟨M, e1, e2⟩ := q1 hm
  rw [hv]
  refine ⟨by rw [hn], e2.b.trans h2.b, e2.deep.trans h2.deep, e2.err, ?_, e2.at_⟩
  show (bodyS val c { (hereS s).2 with nodes := (hereS s).2.nodes ++ [zeroJ] }).2.nodes.set (hereS s).2.nodes.length _ = _
  rw [e2.nodes, e1, hn, List.append_assoc, List.set_append_right _ _ (Nat.le_refl _), Nat.sub_self]
  rfl
theorem word_reads {s : RJ} {w X : List UInt8} {k : Nat} (hk : (w = trueB ∧ k = 5) ∨ (w = falseB ∧ k = 6) ∨ (w = nullB ∧ k = 7)) (he : s.err = 0) (h : At s (w ++ X)) : (wordS s).1 = ⟨k, [], [], []⟩ ∧ Aft s (wordS s).2 [] X := by
  have hm := h.move
  have h1 := h.1
  rcases hk with ⟨rfl, rfl⟩ | ⟨rfl, rfl⟩ | ⟨rfl, rfl⟩
  · unfold wordS
    rw [h1, if_pos (by rfl)]
    exact ⟨rfl, rfl, rfl, he, (List.append_nil _).symm, hm⟩
  · unfold wordS
    rw [h1, if_neg (by simp [trueB, falseB, nullB]), if_pos (by rfl)]
    exact ⟨rfl, rfl, rfl, he, (List.append_nil _).symm, hm⟩
  · unfold wordS
    rw [h1, if_neg (by simp [trueB, falseB, nullB]), if_neg (by simp [trueB, falseB, nullB]), if_pos (by rfl)]
    exact ⟨rfl, rfl, rfl, he, (List.append_nil _).symm, hm⟩
end Go.Proofs.YtfemncfhiihckaaDoor
