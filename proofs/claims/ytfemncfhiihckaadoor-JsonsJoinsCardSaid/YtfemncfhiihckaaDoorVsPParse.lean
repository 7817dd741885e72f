/- What Parse comes to on a value's text. -/
import Derived.Test.YtfemncfhiihckaaDoorVsPTxt
open Go Go.VS
namespace Go.Proofs.YtfemncfhiihckaaDoor
set_option linter.unusedVariables false
set_option linter.unusedSimpArgs false
set_option maxRecDepth 20000
set_option maxHeartbeats 4000000
def itemsV (val : GV → List UInt8) (nodes : GV → Nat → List JN) (ks : List GV) : List It := ks.map fun k => (val k, nodes k)
theorem kids_tail (val : GV → List UInt8) (nodes : GV → Nat → List JN) (obj : Bool) (gap : List UInt8) : ∀ (ks : List GV) (i : Nat) (out : List UInt8), 0 < i → kidsT val obj gap i out ks ++ (gap ++ [shT obj]) = out ++ tailI obj gap i (itemsV val nodes ks)
  | [], i, out, _ => by rw [kidsT]; rfl
  | k :: ks, i, out, hi => by
    rw [kidsT, kids_tail val nodes obj gap ks (i + 1) _ (by omega)]
    show _ = out ++ (gap ++ 44 :: (gap ++ (preI obj gap i ++ (val k ++ tailI obj gap (i + 1) (itemsV val nodes ks)))))
    unfold rndT preI
    rw [if_pos hi]
    cases obj <;> simp [List.append_assoc]
theorem kids_body (val : GV → List UInt8) (nodes : GV → Nat → List JN) (obj : Bool) (gap : List UInt8) (ks : List GV) : kidsT val obj gap 0 [opT obj] ks ++ gap ++ [shT obj] = opT obj :: bodyI obj gap (itemsV val nodes ks) := by
  rw [List.append_assoc]
  cases ks with
  | nil => rw [kidsT]; rfl
  | cons k ks =>
    rw [kidsT, kids_tail val nodes obj gap ks (0 + 1) _ (by omega)]
    show _ = opT obj :: (gap ++ (preI obj gap 0 ++ (val k ++ tailI obj gap 1 (itemsV val nodes ks))))
    unfold rndT preI
    rw [if_neg (by omega)]
    cases obj <;> simp [List.append_assoc]
def leafN (m : Nat) (t : List UInt8) : JN :=
  match m with
  | 2 => ⟨3, plainT t, [], []⟩
  | 3 => ⟨4, numsT (t.length % 4), [], []⟩
  | 4 => ⟨5, [], [], []⟩
  | 5 => ⟨6, [], [], []⟩
  | _ => ⟨7, [], [], []⟩
def nodesV : Nat → GV → Nat → List JN
  | 0, v => fun _ => if v.k.toNat % 7 ≤ 1 then [⟨2, [], [], []⟩] else [leafN (v.k.toNat % 7) v.t]
  | d + 1, v => fun base => if v.k.toNat % 7 ≤ 1 then groupN (decide (v.k.toNat % 7 = 1)) (itemsV (fun _ => []) (nodesV d) (v.ks.take 9)) base else [leafN (v.k.toNat % 7) v.t]
theorem nodesI_any (f g : GV → List UInt8) (nodes : GV → Nat → List JN) : ∀ (ks : List GV) (base : Nat), nodesI base (itemsV f nodes ks) = nodesI base (itemsV g nodes ks)
  | [], _ => rfl
  | k :: ks, base => by
    show (nodes k base ++ (nodesI _ (itemsV f nodes ks)).1, base :: (nodesI _ (itemsV f nodes ks)).2) = (nodes k base ++ (nodesI _ (itemsV g nodes ks)).1, base :: (nodesI _ (itemsV g nodes ks)).2)
    rw [nodesI_any f g nodes ks]
theorem groupN_any (f g : GV → List UInt8) (nodes : GV → Nat → List JN) (obj : Bool) (ks : List GV) : groupN obj (itemsV f nodes ks) = groupN obj (itemsV g nodes ks) := by
  funext base
  unfold groupN
  rw [nodesI_any f g nodes ks, show (itemsV f nodes ks).length = (itemsV g nodes ks).length by simp [itemsV]]
theorem leaf_reads {val : RJ → Nat × RJ} {deep : Nat} (m : Nat) (t : List UInt8) : Reads (valueS val) deep (leafT m t) (fun _ => [leafN m t]) := by
  have done : ∀ {s : RJ} {X : List UInt8} {base : Nat} {c : UInt8} {nd : JN} {r : RJ}, base < 256 → bodyS val c s = (nd, r) → Aft s r [] X → nd = leafN m t →
      (base + [leafN m t].length ≤ 256 → ∃ M, [leafN m t] = (bodyS val c s).1 :: M ∧ Aft s (bodyS val c s).2 M X) ∧ (256 < base + [leafN m t].length → (bodyS val c s).2.err = 14) := by
    intro s X base c nd r hb e1 e2 e3
    refine ⟨fun _ => ⟨[], by rw [e1, e3], by rw [e1]; exact e2⟩, fun h => ?_⟩
    simp at h; omega
  unfold leafT
  split
  · obtain ⟨xs, hp, hx⟩ := plain_clean t
    rw [show [34] ++ plainT t ++ [34] = 34 :: (plainT t ++ [34]) by simp]
    refine value_reads (by decide) (fun _ => by simp) fun s X base hd he hl hb h hX => ?_
    have h' : At s (34 :: (xs.flatMap encB ++ 34 :: X)) := by rw [← hp]; simpa using h
    obtain ⟨a1, a2⟩ := text_reads he h' hx
    refine done hb (r := (textS s).2) (nd := ⟨3, (textS s).1, [], []⟩) ?_ a2 (by rw [a1, ← hp]; rfl)
    unfold bodyS
    rw [if_neg (by decide), if_neg (by decide), if_pos rfl]
  · have num : ∀ (c : UInt8) (T : List UInt8), numsT (t.length % 4) = c :: T → blank c = false → c ≠ 123 → c ≠ 91 → c ≠ 34 → (c = 45 ∨ digit c = true) → Reads (valueS val) deep (numsT (t.length % 4)) (fun _ => [leafN 3 t]) := by
      intro c T hT hc k1 k2 k3 k4
      rw [hT]
      refine value_reads hc (fun _ => by simp) fun s X base hd he hl hb h hX => ?_
      have h' : At s (numsT (t.length % 4) ++ X) := by rw [hT]; exact h
      have hp := num_pos (t.length % 4) hX h'.1
      have hm := h'.move
      have hns : numberS s = (numsT (t.length % 4), { s with at_ := s.at_ + (numsT (t.length % 4)).length }) := by
        unfold numberS
        rw [hp]
        simp only [if_true]
        rw [h'.1, Nat.add_sub_cancel_left, List.take_left' rfl]
      refine done hb (r := (numberS s).2) (nd := ⟨4, (numberS s).1, [], []⟩) ?_ (by rw [hns]; exact ⟨rfl, rfl, he, (List.append_nil _).symm, hm⟩) (by rw [hns]; rfl)
      unfold bodyS
      rw [if_neg k1, if_neg k2, if_neg k3, if_pos k4]
    rcases (by omega : t.length % 4 = 0 ∨ t.length % 4 = 1 ∨ t.length % 4 = 2 ∨ t.length % 4 = 3) with e | e | e | e
    · exact num 48 [] (by rw [e]; rfl) (by decide) (by decide) (by decide) (by decide) (.inr (by decide))
    · exact num 45 [49, 50] (by rw [e]; rfl) (by decide) (by decide) (by decide) (by decide) (.inl rfl)
    · exact num 49 [46, 53, 101, 43, 51] (by rw [e]; rfl) (by decide) (by decide) (by decide) (by decide) (.inr (by decide))
    · exact num 49 [48, 69, 45, 50] (by rw [e]; rfl) (by decide) (by decide) (by decide) (by decide) (.inr (by decide))
  · refine value_reads (by decide) (fun _ => by simp) fun s X base hd he hl hb h hX => ?_
    obtain ⟨a1, a2⟩ := word_reads (w := trueB) (X := X) (.inl ⟨rfl, rfl⟩) he h
    refine done hb (r := (wordS s).2) (nd := (wordS s).1) ?_ a2 (by rw [a1]; rfl)
    unfold bodyS
    rw [if_neg (by decide), if_neg (by decide), if_neg (by decide), if_neg (by decide)]
  · refine value_reads (by decide) (fun _ => by simp) fun s X base hd he hl hb h hX => ?_
    obtain ⟨a1, a2⟩ := word_reads (w := falseB) (X := X) (.inr (.inl ⟨rfl, rfl⟩)) he h
    refine done hb (r := (wordS s).2) (nd := (wordS s).1) ?_ a2 (by rw [a1]; rfl)
    unfold bodyS
    rw [if_neg (by decide), if_neg (by decide), if_neg (by decide), if_neg (by decide)]
  · rename_i k2 k3 k4 k5
    have hN : leafN m t = ⟨7, [], [], []⟩ := by unfold leafN; split <;> first | (exact absurd rfl (by assumption)) | rfl
    refine value_reads (by decide) (fun _ => by simp) fun s X base hd he hl hb h hX => ?_
    obtain ⟨a1, a2⟩ := word_reads (w := nullB) (X := X) (.inr (.inr ⟨rfl, rfl⟩)) he h
    refine done hb (r := (wordS s).2) (nd := (wordS s).1) ?_ a2 (by rw [a1, hN])
    unfold bodyS
    rw [if_neg (by decide), if_neg (by decide), if_neg (by decide), if_neg (by decide)]
theorem leaf_head (m : Nat) (t : List UInt8) : HeadOk (leafT m t) := by
  unfold leafT
  split
  · exact ⟨34, plainT t ++ [34], by simp, by decide, by decide⟩
  · unfold numsT
    split <;> exact ⟨_, _, rfl, by decide, by decide⟩
  · exact ⟨_, _, rfl, by decide, by decide⟩
  · exact ⟨_, _, rfl, by decide, by decide⟩
  · exact ⟨_, _, rfl, by decide, by decide⟩
theorem txt_head (gap : List UInt8) (d : Nat) (v : GV) : HeadOk (txtS gap d v) := by
  obtain ⟨k, t, kn, ks⟩ := v
  by_cases hm : k.toNat % 7 ≤ 1
  · cases d with
    | zero => rw [txt_zero hm]; exact ⟨_, _, rfl, by decide, by decide⟩
    | succ d =>
      rw [txt_kids hm, kids_body _ (nodesV d)]
      exact ⟨_, _, rfl, by cases decide (k.toNat % 7 = 1) <;> decide, by cases decide (k.toNat % 7 = 1) <;> decide⟩
  · rw [txt_leaf hm]; exact leaf_head _ _
theorem txt_reads {gap : List UInt8} (hg : AllB gap) : ∀ (d : Nat) (v : GV) (n deep : Nat), d < n → deep + d + 1 ≤ 8 → Reads (valS n) deep (txtS gap d v) (nodesV d v)
  | d, v, 0, deep, h, _ => by omega
  | 0, .mk k t kn ks, n + 1, deep, _, hd => by
    by_cases hm : k.toNat % 7 ≤ 1
    · have e1 : nodesV 0 (.mk k t kn ks) = groupN false [] := by
        funext base
        show (if k.toNat % 7 ≤ 1 then [(⟨2, [], [], []⟩ : JN)] else _) = _
        rw [if_pos hm]; rfl
      rw [txt_zero hm, e1]
      exact group_reads (gap := []) (fun _ h => by cases h) (by omega) false [] (by simp) (fun _ h => by cases h) (fun _ h => by cases h)
    · have e1 : nodesV 0 (.mk k t kn ks) = fun _ => [leafN (k.toNat % 7) t] := by
        funext base
        show (if k.toNat % 7 ≤ 1 then [(⟨2, [], [], []⟩ : JN)] else _) = _
        rw [if_neg hm]; rfl
      rw [txt_leaf hm, e1]
      exact leaf_reads _ _
  | d + 1, .mk k t kn ks, n + 1, deep, hn, hd => by
    by_cases hm : k.toNat % 7 ≤ 1
    · have e1 : nodesV (d + 1) (.mk k t kn ks) = groupN (decide (k.toNat % 7 = 1)) (itemsV (txtS gap d) (nodesV d) (ks.take 9)) := by
        rw [groupN_any (txtS gap d) (fun _ => [])]
        funext base
        exact if_pos hm
      rw [txt_kids hm, e1, kids_body _ (nodesV d)]
      refine group_reads hg (by omega) _ _ (by simp [itemsV]; omega) (fun x hx => ?_) (fun x hx => ?_)
      · obtain ⟨y, _, rfl⟩ := List.mem_map.1 hx
        exact txt_head gap d y
      · obtain ⟨y, _, rfl⟩ := List.mem_map.1 hx
        exact txt_reads hg d y n (deep + 1) (by omega) (by omega)
    · have e1 : nodesV (d + 1) (.mk k t kn ks) = fun _ => [leafN (k.toNat % 7) t] := by
        funext base
        exact if_neg hm
      rw [txt_leaf hm, e1]
      exact leaf_reads _ _
/-- What Parse comes to on what is read. -/
theorem parse_reads {T : List UInt8} {N : Nat → List JN} (hR : Reads (valS 9) 0 T N) (hl : T.length ≤ 4096) : parseS T = if (N 0).length ≤ 256 then (N 0, 0) else ([], 14) := by
  obtain ⟨r1, r2⟩ := hR ⟨T, 0, 0, [], 0⟩ [] [] rfl rfl (by simp) (by refine ⟨?_, by simp⟩; simp) (fun _ h => by cases h) (fun _ h => by cases h)
  simp only [List.length_nil, Nat.zero_add] at r1 r2
  unfold parseS
  rw [if_neg (by omega)]
  by_cases hm : (N 0).length ≤ 256
  · rw [if_pos hm]
    obtain ⟨q1, q2⟩ := r1 hm
    obtain ⟨e1, e2⟩ := here_end q2.err q2.at_ (fun _ h => by cases h)
    have hlen := e2.at_.len
    simp only [List.length_nil, Nat.add_zero] at hlen
    simp only
    have hin : ¬ ((hereS (valS 9 ⟨T, 0, 0, [], 0⟩).2).1 ≠ 0 ∨ (hereS (valS 9 ⟨T, 0, 0, [], 0⟩).2).2.at_ < (hereS (valS 9 ⟨T, 0, 0, [], 0⟩).2).2.b.length) := by rw [e1, hlen]; simp
    rw [if_neg hin, if_neg (by rw [e2.err]; simp), e2.nodes, q2.nodes]
    simp
  · rw [if_neg hm]
    have e14 := r2 (by omega)
    have hne : (valS 9 ⟨T, 0, 0, [], 0⟩).2.err ≠ 0 := by rw [e14]; decide
    simp only [here_err hne, fail_err hne]
    rw [if_pos (by split <;> exact hne)]
    congr 1
    split <;> exact e14
theorem parse_txt {gap : List UInt8} (hg : AllB gap) (d : Nat) (hd : d ≤ 5) (v : GV) (hl : (txtS gap d v).length ≤ 4096) : parseS (txtS gap d v) = if (nodesV d v 0).length ≤ 256 then (nodesV d v 0, 0) else ([], 14) :=
  parse_reads (txt_reads hg d v 9 0 (by omega) (by omega)) hl
end Go.Proofs.YtfemncfhiihckaaDoor
