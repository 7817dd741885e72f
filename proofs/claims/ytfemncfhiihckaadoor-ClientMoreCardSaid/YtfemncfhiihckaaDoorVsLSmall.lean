/- What a text's nodes hold is not many: plain law. -/
import Derived.Test.YtfemncfhiihckaaDoorVsJVal3
open Go Go.VS
namespace Go.Proofs.YtfemncfhiihckaaDoor
set_option linter.unusedVariables false
set_option linter.unusedSimpArgs false
set_option maxRecDepth 20000
set_option maxHeartbeats 4000000
instance : Inhabited JN := ⟨⟨0, [], [], []⟩⟩
def smallJ (x : JN) : Prop := x.ns.length ≤ 400 ∧ x.ks.length ≤ 400
def AllN (s : RJ) : Prop := ∀ x ∈ s.nodes, smallJ x
theorem alln_of {s t : RJ} (h : AllN s) (e : t.nodes = s.nodes) : AllN t := by unfold AllN; rw [e]; exact h
theorem arr_small {val : RJ → Nat × RJ} (hN : ∀ s, AllN s → AllN (val s).2) : ∀ (n : Nat) (s : RJ) (ks : List Nat), AllN s → AllN (arrS val n s ks).2 ∧ (arrS val n s ks).1.length ≤ ks.length + n
  | 0, s, ks, h => ⟨h, Nat.le_refl _⟩
  | n + 1, s, ks, h => by
    unfold arrS
    split
    · exact ⟨h, by simp only; omega⟩
    have h1 := hN s h
    have h2 := alln_of h1 (signS_b (val s).2 93).2.2.1
    split
    · exact ⟨h2, by simp only [List.length_append, List.length_cons, List.length_nil]; omega⟩
    have h3 := alln_of h2 (signS_b (signS (val s).2 93).2 44).2.2.1
    split
    · have := arr_small hN n _ (ks ++ [(val s).1]) h3
      simp only [List.length_append, List.length_cons, List.length_nil] at this
      exact ⟨this.1, by omega⟩
    · have := arr_small hN n _ (ks ++ [(val s).1]) (alln_of h3 (fail_b _ 11).2.2.1)
      simp only [List.length_append, List.length_cons, List.length_nil] at this
      exact ⟨this.1, by omega⟩
theorem obj_small {val : RJ → Nat × RJ} (hN : ∀ s, AllN s → AllN (val s).2) : ∀ (n : Nat) (s : RJ) (ns : List (List UInt8)) (ks : List Nat), AllN s → AllN (objS val n s ns ks).2 ∧ (objS val n s ns ks).1.1.length ≤ ns.length + n ∧ (objS val n s ns ks).1.2.length ≤ ks.length + n
  | 0, s, ns, ks, h => ⟨h, Nat.le_refl _, Nat.le_refl _⟩
  | n + 1, s, ns, ks, h => by
    have h0 := alln_of h (hereS_b s).2.2.1
    unfold objS
    split
    · exact ⟨h, by simp only; omega, by simp only; omega⟩
    split
    · exact ⟨alln_of h0 (fail_b _ 11).2.2.1, by simp only; omega, by simp only; omega⟩
    have h1 := alln_of h0 (textS_b (hereS s).2).2.2
    simp only
    have h2 : AllN (if (textS (hereS s).2).1 ∈ ns then (textS (hereS s).2).2.fail 12 else (textS (hereS s).2).2) := by
      split
      · exact alln_of h1 (fail_b _ 12).2.2.1
      · exact h1
    generalize (if (textS (hereS s).2).1 ∈ ns then (textS (hereS s).2).2.fail 12 else (textS (hereS s).2).2) = S1 at *
    have h3 := alln_of h2 (signS_b S1 58).2.2.1
    have h4 : AllN (if (signS S1 58).1 = true then (signS S1 58).2 else (signS S1 58).2.fail 11) := by
      split
      · exact h3
      · exact alln_of h3 (fail_b _ 11).2.2.1
    generalize (if (signS S1 58).1 = true then (signS S1 58).2 else (signS S1 58).2.fail 11) = S2 at *
    have h5 := hN S2 h4
    have h6 := alln_of h5 (signS_b (val S2).2 125).2.2.1
    split
    · exact ⟨h6, by simp only [List.length_append, List.length_cons, List.length_nil]; omega, by simp only [List.length_append, List.length_cons, List.length_nil]; omega⟩
    have h7 := alln_of h6 (signS_b (signS (val S2).2 125).2 44).2.2.1
    have h8 : AllN (if (signS (signS (val S2).2 125).2 44).1 = true then (signS (signS (val S2).2 125).2 44).2 else (signS (signS (val S2).2 125).2 44).2.fail 11) := by
      split
      · exact h7
      · exact alln_of h7 (fail_b _ 11).2.2.1
    have := obj_small hN n _ (ns ++ [(textS (hereS s).2).1]) (ks ++ [(val S2).1]) h8
    simp only [List.length_append, List.length_cons, List.length_nil] at this
    exact ⟨this.1, by omega, by omega⟩
theorem small0 (k : Nat) (t : List UInt8) : smallJ ⟨k, t, [], []⟩ := ⟨by simp, by simp⟩
theorem array_small {val : RJ → Nat × RJ} (hN : ∀ s, AllN s → AllN (val s).2) (s : RJ) (h : AllN s) : AllN (arrayS val s).2 ∧ smallJ (arrayS val s).1 := by
  have h0 := alln_of h (openS_b s).2.2.1
  have h1 := alln_of h0 (signS_b (openS s) 93).2.2.1
  unfold arrayS
  split
  · exact ⟨h1, small0 _ _⟩
  · have := arr_small hN 300 _ [] h1
    refine ⟨this.1, by simp, ?_⟩
    simp only [List.length_nil] at this
    show (arrS val 300 (signS (openS s) 93).2 []).1.length ≤ 400
    omega
theorem object_small {val : RJ → Nat × RJ} (hN : ∀ s, AllN s → AllN (val s).2) (s : RJ) (h : AllN s) : AllN (objectS val s).2 ∧ smallJ (objectS val s).1 := by
  have h0 := alln_of h (openS_b s).2.2.1
  have h1 := alln_of h0 (signS_b (openS s) 125).2.2.1
  unfold objectS
  split
  · exact ⟨h1, small0 _ _⟩
  · have := obj_small hN 300 _ [] [] h1
    simp only [List.length_nil] at this
    refine ⟨this.1, ?_, ?_⟩
    · show (objS val 300 (signS (openS s) 125).2 [] []).1.1.length ≤ 400
      omega
    · show (objS val 300 (signS (openS s) 125).2 [] []).1.2.length ≤ 400
      omega
theorem body_small {val : RJ → Nat × RJ} (hN : ∀ s, AllN s → AllN (val s).2) (c : UInt8) (s : RJ) (h : AllN s) : AllN (bodyS val c s).2 ∧ smallJ (bodyS val c s).1 := by
  unfold bodyS
  split
  · exact object_small hN s h
  split
  · exact array_small hN s h
  split
  · exact ⟨alln_of h (textS_b s).2.2, small0 _ _⟩
  split
  · refine ⟨?_, small0 _ _⟩
    unfold numberS
    simp only
    split
    · exact h
    · exact alln_of h (fail_b { s with at_ := (numP s.b s.at_).2 } 11).2.2.1
  · unfold wordS
    split
    · exact ⟨h, small0 _ _⟩
    split
    · exact ⟨h, small0 _ _⟩
    split
    · exact ⟨h, small0 _ _⟩
    · exact ⟨alln_of h (fail_b s 11).2.2.1, small0 _ _⟩
theorem val_small : ∀ (n : Nat) (s : RJ), AllN s → AllN (valS n s).2
  | 0, s, h => alln_of h (fail_b s 13).2.2.1
  | n + 1, s, h => by
    have h0 := alln_of h (hereS_b s).2.2.1
    have hr : AllN (roomS s) := by
      unfold roomS
      split
      · exact alln_of h0 (fail_b _ 14).2.2.1
      · exact h0
    show AllN (valueS (valS n) s).2
    unfold valueS
    split
    · exact hr
    · have hz : AllN { roomS s with nodes := (roomS s).nodes ++ [zeroJ] } := fun x hx => by
        rcases List.mem_append.1 hx with hx | hx
        · exact hr x hx
        · rw [List.mem_singleton.1 hx]; exact small0 _ _
      have hb := body_small (val_small n) (hereS s).1 _ hz
      intro x hx
      rcases List.mem_or_eq_of_mem_set hx with hx | hx
      · exact hb.1 x hx
      · rw [hx]; exact hb.2
theorem parse_small (b : List UInt8) : ∀ x ∈ (parseS b).1, smallJ x := by
  unfold parseS
  split
  · intro x hx; cases hx
  simp only
  have h0 : AllN ⟨b, 0, 0, [], 0⟩ := fun x hx => by cases hx
  have h1 := val_small 9 _ h0
  have h2 := alln_of h1 (hereS_b (valS 9 ⟨b, 0, 0, [], 0⟩).2).2.2.1
  generalize hereS (valS 9 ⟨b, 0, 0, [], 0⟩).2 = H at *
  have h3 : AllN (if H.1 ≠ 0 ∨ H.2.at_ < H.2.b.length then H.2.fail 11 else H.2) := by
    split
    · exact alln_of h2 (fail_b _ 11).2.2.1
    · exact h2
  generalize (if H.1 ≠ 0 ∨ H.2.at_ < H.2.b.length then H.2.fail 11 else H.2) = S at *
  split
  · intro x hx; cases hx
  · exact h3
theorem parse_many (b : List UInt8) : (parseS b).1.length ≤ 256 := by
  unfold parseS
  split
  · simp
  rename_i hl
  simp only
  have hO : OkJ ⟨b, 0, 0, [], 0⟩ := ⟨Nat.zero_le _, by simp only; omega, by simp⟩
  have h1 := (valS_keep 9).1.ok _ hO
  have h2 := hereS_ok _ h1
  generalize hereS (valS 9 ⟨b, 0, 0, [], 0⟩).2 = H at *
  have h3 : OkJ (if H.1 ≠ 0 ∨ H.2.at_ < H.2.b.length then H.2.fail 11 else H.2) := by
    split
    · exact fail_ok _ 11 h2
    · exact h2
  generalize (if H.1 ≠ 0 ∨ H.2.at_ < H.2.b.length then H.2.fail 11 else H.2) = S at *
  split
  · simp
  · exact h3.nod
end Go.Proofs.YtfemncfhiihckaaDoor
