/- The nodes that Parse answers: their places are places of theirs. -/
import Derived.Test.YtfemncfhiihckaaDoorVsRGet
open Go Go.VS
namespace Go.Proofs.YtfemncfhiihckaaDoor
set_option linter.unusedVariables false
set_option linter.unusedSimpArgs false
set_option maxRecDepth 20000
set_option maxHeartbeats 4000000
def NK (s : RJ) : Prop := ∀ x ∈ s.nodes, x.k ≤ 7 ∧ ∀ k ∈ x.ks, k < max 1 s.nodes.length
structure Grow (s t : RJ) : Prop where
  len : s.nodes.length ≤ t.nodes.length
  nk : NK s → NK t
theorem Grow.of {s t : RJ} (e : t.nodes = s.nodes) : Grow s t := ⟨by rw [e]; exact Nat.le_refl _, fun h => by unfold NK; rw [e]; exact h⟩
theorem Grow.trans {s t u : RJ} (h : Grow s t) (h' : Grow t u) : Grow s u := ⟨Nat.le_trans h.len h'.len, fun x => h'.nk (h.nk x)⟩
def VG (val : RJ → Nat × RJ) : Prop := ∀ s, Grow s (val s).2 ∧ (val s).1 < max 1 (val s).2.nodes.length
theorem lt_max {k a b : Nat} (h : k < max 1 a) (hab : a ≤ b) : k < max 1 b := by omega
theorem arr_grow {val : RJ → Nat × RJ} (hV : VG val) : ∀ (n : Nat) (s : RJ) (ks : List Nat), (∀ k ∈ ks, k < max 1 s.nodes.length) → Grow s (arrS val n s ks).2 ∧ ∀ k ∈ (arrS val n s ks).1, k < max 1 (arrS val n s ks).2.nodes.length
  | 0, s, ks, h => ⟨.of rfl, h⟩
  | n + 1, s, ks, h => by
    unfold arrS
    split
    · exact ⟨.of rfl, h⟩
    obtain ⟨v1, v2⟩ := hV s
    have g1 : Grow (val s).2 (signS (val s).2 93).2 := .of (signS_b _ _).2.2.1
    have add : ∀ t, Grow (val s).2 t → ∀ k ∈ ks ++ [(val s).1], k < max 1 t.nodes.length := fun t gt k hk => by
      rcases List.mem_append.1 hk with hk | hk
      · exact lt_max (h k hk) (v1.trans gt).len
      · simp only [List.mem_singleton] at hk
        subst hk
        exact lt_max v2 gt.len
    split
    · exact ⟨v1.trans g1, add _ g1⟩
    have g2 : Grow (val s).2 (signS (signS (val s).2 93).2 44).2 := g1.trans (.of (signS_b _ _).2.2.1)
    split
    · obtain ⟨a, b⟩ := arr_grow hV n _ _ (add _ g2)
      exact ⟨(v1.trans g2).trans a, b⟩
    · have g3 : Grow (val s).2 ((signS (signS (val s).2 93).2 44).2.fail 11) := g2.trans (.of (fail_b _ 11).2.2.1)
      obtain ⟨a, b⟩ := arr_grow hV n _ _ (add _ g3)
      exact ⟨(v1.trans g3).trans a, b⟩
theorem obj_grow {val : RJ → Nat × RJ} (hV : VG val) : ∀ (n : Nat) (s : RJ) (ns : List (List UInt8)) (ks : List Nat), (∀ k ∈ ks, k < max 1 s.nodes.length) → Grow s (objS val n s ns ks).2 ∧ ∀ k ∈ (objS val n s ns ks).1.2, k < max 1 (objS val n s ns ks).2.nodes.length
  | 0, s, ns, ks, h => ⟨.of rfl, h⟩
  | n + 1, s, ns, ks, h => by
    have g0 : Grow s (hereS s).2 := .of (hereS_b s).2.2.1
    unfold objS
    split
    · exact ⟨.of rfl, h⟩
    split
    · have g : Grow s ((hereS s).2.fail 11) := g0.trans (.of (fail_b _ 11).2.2.1)
      exact ⟨g, fun k hk => lt_max (h k hk) g.len⟩
    simp only
    have g1 : Grow s (textS (hereS s).2).2 := g0.trans (.of (textS_b (hereS s).2).2.2)
    have g2 : Grow s (if (textS (hereS s).2).1 ∈ ns then (textS (hereS s).2).2.fail 12 else (textS (hereS s).2).2) := by
      split
      · exact g1.trans (.of (fail_b _ 12).2.2.1)
      · exact g1
    generalize (if (textS (hereS s).2).1 ∈ ns then (textS (hereS s).2).2.fail 12 else (textS (hereS s).2).2) = S1 at *
    have g3 : Grow s (signS S1 58).2 := g2.trans (.of (signS_b S1 58).2.2.1)
    have g4 : Grow s (if (signS S1 58).1 = true then (signS S1 58).2 else (signS S1 58).2.fail 11) := by
      split
      · exact g3
      · exact g3.trans (.of (fail_b _ 11).2.2.1)
    generalize (if (signS S1 58).1 = true then (signS S1 58).2 else (signS S1 58).2.fail 11) = S2 at *
    obtain ⟨v1, v2⟩ := hV S2
    have add : ∀ t, Grow (val S2).2 t → ∀ k ∈ ks ++ [(val S2).1], k < max 1 t.nodes.length := fun t gt k hk => by
      rcases List.mem_append.1 hk with hk | hk
      · exact lt_max (h k hk) ((g4.trans v1).trans gt).len
      · simp only [List.mem_singleton] at hk
        subst hk
        exact lt_max v2 gt.len
    have g6 : Grow (val S2).2 (signS (val S2).2 125).2 := .of (signS_b _ _).2.2.1
    split
    · exact ⟨(g4.trans v1).trans g6, add _ g6⟩
    have g7 : Grow (val S2).2 (signS (signS (val S2).2 125).2 44).2 := g6.trans (.of (signS_b _ _).2.2.1)
    have g8 : Grow (val S2).2 (if (signS (signS (val S2).2 125).2 44).1 = true then (signS (signS (val S2).2 125).2 44).2 else (signS (signS (val S2).2 125).2 44).2.fail 11) := by
      split
      · exact g7
      · exact g7.trans (.of (fail_b _ 11).2.2.1)
    obtain ⟨a, b⟩ := obj_grow hV n _ (ns ++ [(textS (hereS s).2).1]) _ (add _ g8)
    exact ⟨((g4.trans v1).trans g8).trans a, b⟩
def kOk (m : Nat) (x : JN) : Prop := x.k ≤ 7 ∧ ∀ k ∈ x.ks, k < max 1 m
theorem kOk0 {m k : Nat} {t : List UInt8} (h : k ≤ 7) : kOk m ⟨k, t, [], []⟩ := ⟨h, fun _ h => by cases h⟩
theorem array_grow {val : RJ → Nat × RJ} (hV : VG val) (s : RJ) : Grow s (arrayS val s).2 ∧ kOk (arrayS val s).2.nodes.length (arrayS val s).1 := by
  have g1 : Grow s (signS (openS s) 93).2 := (Grow.of (openS_b s).2.2.1).trans (.of (signS_b _ _).2.2.1)
  unfold arrayS
  split
  · exact ⟨g1.trans (.of rfl), kOk0 (by decide)⟩
  · obtain ⟨a, b⟩ := arr_grow hV 300 (signS (openS s) 93).2 [] (fun _ h => by cases h)
    exact ⟨(g1.trans a).trans (.of rfl), by show (2 : Nat) ≤ 7; decide, b⟩
theorem object_grow {val : RJ → Nat × RJ} (hV : VG val) (s : RJ) : Grow s (objectS val s).2 ∧ kOk (objectS val s).2.nodes.length (objectS val s).1 := by
  have g1 : Grow s (signS (openS s) 125).2 := (Grow.of (openS_b s).2.2.1).trans (.of (signS_b _ _).2.2.1)
  unfold objectS
  split
  · exact ⟨g1.trans (.of rfl), kOk0 (by decide)⟩
  · obtain ⟨a, b⟩ := obj_grow hV 300 (signS (openS s) 125).2 [] [] (fun _ h => by cases h)
    exact ⟨(g1.trans a).trans (.of rfl), by show (1 : Nat) ≤ 7; decide, b⟩
theorem body_grow {val : RJ → Nat × RJ} (hV : VG val) (c : UInt8) (s : RJ) : Grow s (bodyS val c s).2 ∧ kOk (bodyS val c s).2.nodes.length (bodyS val c s).1 := by
  unfold bodyS
  split
  · exact object_grow hV s
  split
  · exact array_grow hV s
  split
  · exact ⟨.of (textS_b s).2.2, kOk0 (by decide)⟩
  split
  · refine ⟨.of ?_, kOk0 (by decide)⟩
    unfold numberS
    simp only
    split
    · rfl
    · exact (fail_b _ 11).2.2.1
  · unfold wordS
    split
    · exact ⟨.of rfl, kOk0 (by decide)⟩
    split
    · exact ⟨.of rfl, kOk0 (by decide)⟩
    split
    · exact ⟨.of rfl, kOk0 (by decide)⟩
    · exact ⟨.of (fail_b _ 11).2.2.1, kOk0 (by decide)⟩
theorem value_grow {val : RJ → Nat × RJ} (hV : VG val) : VG (valueS val) := by
  intro s
  have hr : Grow s (roomS s) := by
    unfold roomS
    split
    · exact (Grow.of (hereS_b s).2.2.1).trans (.of (fail_b _ 14).2.2.1)
    · exact .of (hereS_b s).2.2.1
  unfold valueS
  split
  · exact ⟨hr, by simp only; omega⟩
  · obtain ⟨b1, b2⟩ := body_grow hV (hereS s).1 { roomS s with nodes := (roomS s).nodes ++ [zeroJ] }
    generalize bodyS val (hereS s).1 { roomS s with nodes := (roomS s).nodes ++ [zeroJ] } = B at *
    have hl := b1.len
    simp only [List.length_append, List.length_cons, List.length_nil] at hl
    have hl0 := hr.len
    refine ⟨⟨by simp only [List.length_set]; omega, fun h x hx => ?_⟩, by simp only [List.length_set]; omega⟩
    simp only [List.length_set] at hx ⊢
    have hz : NK { roomS s with nodes := (roomS s).nodes ++ [zeroJ] } := by
      intro y hy
      rcases List.mem_append.1 hy with hy | hy
      · obtain ⟨y1, y2⟩ := hr.nk h y hy
        exact ⟨y1, fun k hk => lt_max (y2 k hk) (by simp)⟩
      · simp only [List.mem_singleton] at hy
        subst hy
        exact kOk0 (by decide)
    rcases List.mem_or_eq_of_mem_set hx with hx | rfl
    · exact b1.nk hz x hx
    · exact b2
theorem val_grow : ∀ n, VG (valS n)
  | 0 => fun s => ⟨.of (fail_b s 13).2.2.1, by show 0 < max 1 _; omega⟩
  | n + 1 => value_grow (val_grow n)
theorem parse_eq (b : List UInt8) (hl : ¬ 4096 < b.length) : ∃ S : RJ, (S = (hereS (valS 9 ⟨b, 0, 0, [], 0⟩).2).2.fail 11 ∨ S = (hereS (valS 9 ⟨b, 0, 0, [], 0⟩).2).2) ∧ parseS b = if S.err ≠ 0 then ([], S.err) else (S.nodes, 0) := by
  refine ⟨if (hereS (valS 9 ⟨b, 0, 0, [], 0⟩).2).1 ≠ 0 ∨ (hereS (valS 9 ⟨b, 0, 0, [], 0⟩).2).2.at_ < (hereS (valS 9 ⟨b, 0, 0, [], 0⟩).2).2.b.length then (hereS (valS 9 ⟨b, 0, 0, [], 0⟩).2).2.fail 11 else (hereS (valS 9 ⟨b, 0, 0, [], 0⟩).2).2, ?_, ?_⟩
  · split
    · exact .inl rfl
    · exact .inr rfl
  · unfold parseS
    rw [if_neg hl]
theorem parse_right (b : List UInt8) (h : (parseS b).2 = 0) : ∃ t : RJ, (parseS b).1 = t.nodes ∧ 1 ≤ t.nodes.length ∧ NK t := by
  by_cases hl : 4096 < b.length
  · unfold parseS at h; rw [if_pos hl] at h; cases h
  obtain ⟨S, h1, h2⟩ := parse_eq b hl
  rw [h2] at h ⊢
  by_cases he : S.err = 0
  · rw [if_neg (by simpa using he)]
    obtain ⟨g1, g2⟩ := val_grow 9 ⟨b, 0, 0, [], 0⟩
    obtain ⟨K, hm⟩ := valS_keep 9
    have hO : OkJ ⟨b, 0, 0, [], 0⟩ := ⟨Nat.zero_le _, by simp only; omega, by simp⟩
    have hmore := K.more _ hO
    generalize valS 9 ⟨b, 0, 0, [], 0⟩ = V at *
    obtain ⟨q1, q2, q3, q4⟩ := hereS_b V.2
    rcases h1 with rfl | rfl
    · exact ((fail_b _ 11).2.2.2.2 (by decide) he).elim
    · have := hmore (q4.symm.trans he)
      exact ⟨V.2, q3, by simp at this; omega, g1.nk fun _ h => by cases h⟩
  · rw [if_pos he] at h; exact (he h).elim
theorem parse_nodes (b : List UInt8) (h : (parseS b).2 = 0) : 1 ≤ (parseS b).1.length ∧ ∀ x ∈ (parseS b).1, NodeOk (parseS b).1.length x := by
  have hs := parse_small b
  obtain ⟨t, h1, h2, h3⟩ := parse_right b h
  rw [h1] at hs ⊢
  refine ⟨h2, fun x hx => ?_⟩
  obtain ⟨k1, k2⟩ := h3 x hx
  exact ⟨by omega, (hs x hx).1, (hs x hx).2, fun k hk => by have := k2 k hk; omega⟩
end Go.Proofs.YtfemncfhiihckaaDoor
