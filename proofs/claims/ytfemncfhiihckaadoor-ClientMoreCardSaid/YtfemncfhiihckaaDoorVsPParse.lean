/- What Parse comes to on a value's text. -/
import Derived.Test.YtfemncfhiihckaaDoorVsPTxt
open Go Go.VS
namespace Go.Proofs.YtfemncfhiihckaaDoor
set_option linter.unusedVariables false
set_option linter.unusedSimpArgs false
set_option maxRecDepth 20000
set_option maxHeartbeats 4000000
def leafN (m : Nat) (t : List UInt8) : JN :=
  match m with
  | 2 => ⟨3, plainT t, [], []⟩
  | 3 => ⟨4, numsT (t.length % 4), [], []⟩
  | 4 => ⟨5, [], [], []⟩
  | 5 => ⟨6, [], [], []⟩
  | _ => ⟨7, [], [], []⟩
theorem leaf_reads {val : RJ → Nat × RJ} {deep : Nat} (m : Nat) (t : List UInt8) : Reads (valueS val) deep (leafT m t) (fun _ => [leafN m t]) := by
  have done : ∀ {s : RJ} {X : List UInt8} {base : Nat} {c : UInt8} {nd : JN} {r : RJ}, base < 256 → bodyS val c s = (nd, r) → Aft s r [] X → nd = leafN m t →
      (base + [leafN m t].length ≤ 256 → ∃ M, [leafN m t] = (bodyS val c s).1 :: M ∧ Aft s (bodyS val c s).2 M X) ∧ (256 < base + [leafN m t].length → (bodyS val c s).2.err = 14) := by
    intro s X base c nd r hb e1 e2 e3
    refine ⟨fun _ => ⟨[], by rw [e1, e3], by rw [e1]; exact e2⟩, fun h => ?_⟩
    simp at h; omega
  unfold leafT
  split
  · obtain ⟨xs, hp, hx⟩ := plain_clean t
    rw [show [34] ++ plainT t ++ [34] = 34 :: (plainT t ++ [34]) by simp]
    refine value_reads (by decide) (fun _ => by simp) fun s X base hd he hl hb h hX => ?_
    have h' : At s (34 :: (xs.flatMap encB ++ 34 :: X)) := by rw [← hp]; simpa using h
    obtain ⟨a1, a2⟩ := text_reads he h' hx
    refine done hb (r := (textS s).2) (nd := ⟨3, (textS s).1, [], []⟩) ?_ a2 (by rw [a1, ← hp]; rfl)
    unfold bodyS
    rw [if_neg (by decide), if_neg (by decide), if_pos rfl]
  · have num : ∀ (c : UInt8) (T : List UInt8), numsT (t.length % 4) = c :: T → blank c = false → c ≠ 123 → c ≠ 91 → c ≠ 34 → (c = 45 ∨ digit c = true) → Reads (valueS val) deep (numsT (t.length % 4)) (fun _ => [leafN 3 t]) := by
      intro c T hT hc k1 k2 k3 k4
      rw [hT]
      refine value_reads hc (fun _ => by simp) fun s X base hd he hl hb h hX => ?_
      have h' : At s (numsT (t.length % 4) ++ X) := by rw [hT]; exact h
      have hp := num_pos (t.length % 4) hX h'.1
      have hm := h'.move
      have hns : numberS s = (numsT (t.length % 4), { s with at_ := s.at_ + (numsT (t.length % 4)).length }) := by
        unfold numberS
        rw [hp]
        simp only [if_true]
        rw [h'.1, Nat.add_sub_cancel_left, List.take_left' rfl]
      refine done hb (r := (numberS s).2) (nd := ⟨4, (numberS s).1, [], []⟩) ?_ (by rw [hns]; exact ⟨rfl, rfl, he, (List.append_nil _).symm, hm⟩) (by rw [hns]; rfl)
      unfold bodyS
      rw [if_neg k1, if_neg k2, if_neg k3, if_pos k4]
    rcases (by omega : t.length % 4 = 0 ∨ t.length % 4 = 1 ∨ t.length % 4 = 2 ∨ t.length % 4 = 3) with e | e | e | e
    · exact num 48 [] (by rw [e]; rfl) (by decide) (by decide) (by decide) (by decide) (.inr (by decide))
    · exact num 45 [49, 50] (by rw [e]; rfl) (by decide) (by decide) (by decide) (by decide) (.inl rfl)
    · exact num 49 [46, 53, 101, 43, 51] (by rw [e]; rfl) (by decide) (by decide) (by decide) (by decide) (.inr (by decide))
    · exact num 49 [48, 69, 45, 50] (by rw [e]; rfl) (by decide) (by decide) (by decide) (by decide) (.inr (by decide))
  · refine value_reads (by decide) (fun _ => by simp) fun s X base hd he hl hb h hX => ?_
    obtain ⟨a1, a2⟩ := word_reads (w := trueB) (X := X) (.inl ⟨rfl, rfl⟩) he h
    refine done hb (r := (wordS s).2) (nd := (wordS s).1) ?_ a2 (by rw [a1]; rfl)
    unfold bodyS
    rw [if_neg (by decide), if_neg (by decide), if_neg (by decide), if_neg (by decide)]
  · refine value_reads (by decide) (fun _ => by simp) fun s X base hd he hl hb h hX => ?_
    obtain ⟨a1, a2⟩ := word_reads (w := falseB) (X := X) (.inr (.inl ⟨rfl, rfl⟩)) he h
    refine done hb (r := (wordS s).2) (nd := (wordS s).1) ?_ a2 (by rw [a1]; rfl)
    unfold bodyS
    rw [if_neg (by decide), if_neg (by decide), if_neg (by decide), if_neg (by decide)]
  · rename_i k2 k3 k4 k5
    have hN : leafN m t = ⟨7, [], [], []⟩ := by unfold leafN; split <;> first | (exact absurd rfl (by assumption)) | rfl
    refine value_reads (by decide) (fun _ => by simp) fun s X base hd he hl hb h hX => ?_
    obtain ⟨a1, a2⟩ := word_reads (w := nullB) (X := X) (.inr (.inr ⟨rfl, rfl⟩)) he h
    refine done hb (r := (wordS s).2) (nd := (wordS s).1) ?_ a2 (by rw [a1, hN])
    unfold bodyS
    rw [if_neg (by decide), if_neg (by decide), if_neg (by decide), if_neg (by decide)]
/-- What Parse comes to on what is read. -/
theorem parse_reads {T : List UInt8} {N : Nat → List JN} (hR : Reads (valS 9) 0 T N) (hl : T.length ≤ 4096) : parseS T = if (N 0).length ≤ 256 then (N 0, 0) else ([], 14) := by
  obtain ⟨r1, r2⟩ := hR ⟨T, 0, 0, [], 0⟩ [] [] rfl rfl (by simp) (by refine ⟨?_, by simp⟩; simp) (fun _ h => by cases h) (fun _ h => by cases h)
  simp only [List.length_nil, Nat.zero_add] at r1 r2
  unfold parseS
  rw [if_neg (by omega)]
  by_cases hm : (N 0).length ≤ 256
  · rw [if_pos hm]
    obtain ⟨q1, q2⟩ := r1 hm
    obtain ⟨e1, e2⟩ := here_end q2.err q2.at_ (fun _ h => by cases h)
    have hlen := e2.at_.len
    simp only [List.length_nil, Nat.add_zero] at hlen
    simp only
    have hin : ¬ ((hereS (valS 9 ⟨T, 0, 0, [], 0⟩).2).1 ≠ 0 ∨ (hereS (valS 9 ⟨T, 0, 0, [], 0⟩).2).2.at_ < (hereS (valS 9 ⟨T, 0, 0, [], 0⟩).2).2.b.length) := by rw [e1, hlen]; simp
    rw [if_neg hin, if_neg (by rw [e2.err]; simp), e2.nodes, q2.nodes]
    simp
  · rw [if_neg hm]
    have e14 := r2 (by omega)
    have hne : (valS 9 ⟨T, 0, 0, [], 0⟩).2.err ≠ 0 := by rw [e14]; decide
    simp only [here_err hne, fail_err hne]
    rw [if_pos (by split <;> exact hne)]
    congr 1
    split <;> exact e14
end Go.Proofs.YtfemncfhiihckaaDoor
