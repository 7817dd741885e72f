/- How a reader of JSON goes over values that are written out: plain, no program in sight. -/
import Derived.Test.YtfemncfhiihckaaDoorVsPRead
open Go Go.VS
namespace Go.Proofs.YtfemncfhiihckaaDoor
set_option linter.unusedVariables false
set_option linter.unusedSimpArgs false
set_option maxRecDepth 20000
set_option maxHeartbeats 4000000
theorem text_reads {s : RJ} {X : List UInt8} {xs : List Nat} (he : s.err = 0) (h : At s (34 :: (xs.flatMap encB ++ 34 :: X))) (hx : ∀ x ∈ xs, goodR x) : (textS s).1 = xs.flatMap encB ∧ Aft s (textS s).2 [] X := by
  have hm := At.move (p := [34]) h
  have hl := h.len
  have ht := tx_clean s.b X xs (s.b.length + 1) (s.at_ + 1) [] hx hm.1 (by omega)
  have hm2 := At.move (p := 34 :: (xs.flatMap encB ++ [34])) (X := X) (show At s _ by simpa using h)
  unfold textS
  rw [ht]
  simp only [List.nil_append, if_true]
  refine ⟨trivial, rfl, rfl, he, (List.append_nil _).symm, ?_⟩
  have e : s.at_ + (34 :: (xs.flatMap encB ++ [34])).length = s.at_ + 1 + (xs.flatMap encB).length + 1 := by simp only [List.length_cons, List.length_append, List.length_nil]; omega
  rw [e] at hm2
  exact hm2
def nmI (j : Nat) : List UInt8 := [UInt8.ofNat (97 + j)]
theorem nm_enc (j : Nat) (h : j < 20) : nmI j = [97 + j].flatMap encB := by
  simp only [List.flatMap_cons, List.flatMap_nil, List.append_nil]
  unfold encB
  rw [if_pos (by omega)]
  rfl
theorem nm_good (j : Nat) (h : j < 20) : ∀ x ∈ [97 + j], goodR x := by
  intro x hx
  simp only [List.mem_singleton] at hx
  subst hx
  unfold goodR
  omega
theorem nm_new (i : Nat) (h : i < 20) : nmI i ∉ (List.range i).map nmI := by
  intro hm
  obtain ⟨j, hj, e⟩ := List.mem_map.1 hm
  have hji : j < i := List.mem_range.1 hj
  have := congrArg UInt8.toNat (List.cons.inj e).1
  rw [ofN _ (by omega), ofN _ (by omega)] at this
  omega
theorem obj_err {val : RJ → Nat × RJ} {s : RJ} (he : s.err ≠ 0) (ns : List (List UInt8)) (ks : List Nat) : ∀ n, (objS val n s ns ks).2 = s
  | 0 => rfl
  | n + 1 => by unfold objS; rw [if_pos he]
theorem obj_reads {val : RJ → Nat × RJ} {deep : Nat} {gap : List UInt8} (hg : AllB gap) : ∀ (its : List It) (it : It) (n i : Nat) (s : RJ) (acc : List Nat) (ws X : List UInt8), AllB ws → (∀ x ∈ it :: its, Reads val deep x.1 x.2) → its.length < n → i + its.length < 20 →
    s.deep = deep → s.err = 0 → s.nodes.length ≤ 256 → At s (ws ++ (preI true gap i ++ (it.1 ++ (tailI true gap (i + 1) its ++ X)))) →
    (s.nodes.length + (nodesI s.nodes.length (it :: its)).1.length ≤ 256 → (objS val n s ((List.range i).map nmI) acc).1 = ((List.range (i + 1 + its.length)).map nmI, acc ++ (nodesI s.nodes.length (it :: its)).2) ∧ Aft s (objS val n s ((List.range i).map nmI) acc).2 (nodesI s.nodes.length (it :: its)).1 X) ∧
    (256 < s.nodes.length + (nodesI s.nodes.length (it :: its)).1.length → (objS val n s ((List.range i).map nmI) acc).2.err = 14)
  | its, it, 0, i, s, acc, ws, X, _, _, hn, _, _, _, _, _ => by omega
  | its, it, n + 1, i, s, acc, ws, X, hw, hR, hn, hi, hd, he, hl, h => by
    have h0 : At s (ws ++ 34 :: (nmI i ++ 34 :: (gap ++ 58 :: (gap ++ (it.1 ++ (tailI true gap (i + 1) its ++ X)))))) := by
      simpa [preI, nmI, List.append_assoc] using h
    obtain ⟨a1, a2⟩ := here_at he h0 hw (by decide)
    have a3 := a2.at_
    rw [nm_enc i (by omega)] at a3
    obtain ⟨b1, b2⟩ := text_reads a2.err a3 (nm_good i (by omega))
    rw [← nm_enc i (by omega)] at b1
    obtain ⟨c1, c2⟩ := sign_yes b2.err b2.at_ hg (by decide)
    have hA := (a2.trans b2).trans c2
    simp only [List.append_nil] at hA
    have hln : (signS (textS (hereS s).2).2 58).2.nodes = s.nodes := by rw [hA.nodes, List.append_nil]
    obtain ⟨r1, r2⟩ := hR it (by simp) _ gap _ (hA.deep.trans hd) hA.err (by rw [hln]; exact hl) hA.at_ hg (tail_stop true gap hg (i + 1) its X)
    rw [hln] at r1 r2
    have hst : ∀ acc : List Nat, objS val (n + 1) s ((List.range i).map nmI) acc = (if (signS (val (signS (textS (hereS s).2).2 58).2).2 125).1 = true then (((List.range i).map nmI ++ [nmI i], acc ++ [(val (signS (textS (hereS s).2).2 58).2).1]), (signS (val (signS (textS (hereS s).2).2 58).2).2 125).2)
        else objS val n (if (signS (signS (val (signS (textS (hereS s).2).2 58).2).2 125).2 44).1 = true then (signS (signS (val (signS (textS (hereS s).2).2 58).2).2 125).2 44).2 else (signS (signS (val (signS (textS (hereS s).2).2 58).2).2 125).2 44).2.fail 11) ((List.range i).map nmI ++ [nmI i]) (acc ++ [(val (signS (textS (hereS s).2).2 58).2).1])) := by
      intro acc
      conv => lhs; unfold objS
      rw [if_neg (by simpa using he), if_neg (by simpa using a1)]
      simp only [b1, if_neg (nm_new i (by omega)), c1, if_true]
    have hrg : (List.range i).map nmI ++ [nmI i] = (List.range (i + 1)).map nmI := by rw [List.range_succ, List.map_append]; rfl
    rw [hrg] at hst
    generalize hV : val (signS (textS (hereS s).2).2 58).2 = V at *
    have hbad : 256 < s.nodes.length + (it.2 s.nodes.length).length → (objS val (n + 1) s ((List.range i).map nmI) acc).2.err = 14 := by
      intro hm
      have e14 := r2 hm
      have hne : V.2.err ≠ 0 := by rw [e14]; decide
      rw [hst, (sign_err hne 125).1, (sign_err hne 125).2, (sign_err hne 44).1, (sign_err hne 44).2]
      simp only [Bool.false_eq_true, if_false]
      rw [fail_err hne, obj_err hne]
      exact e14
    cases its with
    | nil =>
      simp only [nodesI, List.append_nil]
      refine ⟨fun hm => ?_, hbad⟩
      obtain ⟨q1, q2⟩ := r1 hm
      have h3 := q2.at_
      rw [tailI, List.append_assoc] at h3
      obtain ⟨y1, y2⟩ := sign_yes q2.err h3 hg (by decide)
      rw [hst, if_pos (show (signS V.2 125).1 = true from y1), q1]
      refine ⟨rfl, ?_⟩
      have := (hA.trans q2).trans y2
      rwa [List.append_nil, List.nil_append] at this
    | cons it2 its =>
      simp only [nodesI, List.length_append] at *
      by_cases hm0 : 256 < s.nodes.length + (it.2 s.nodes.length).length
      · exact ⟨fun hm => by omega, fun _ => hbad hm0⟩
      obtain ⟨q1, q2⟩ := r1 (by omega)
      have h3 := q2.at_
      rw [tailI, List.append_assoc] at h3
      obtain ⟨y1, y2⟩ := sign_no (c := 125) q2.err h3 hg (by decide) (by decide)
      obtain ⟨z1, z2⟩ := sign_yes (ws := []) y2.err y2.at_ (fun _ hx => by cases hx) (by decide)
      have hB := ((hA.trans q2).trans y2).trans z2
      simp only [List.append_nil, List.nil_append] at hB
      have hln2 : (signS (signS V.2 125).2 44).2.nodes.length = s.nodes.length + (it.2 s.nodes.length).length := by rw [hB.nodes, List.length_append]
      have ih := obj_reads hg its it2 n (i + 1) (signS (signS V.2 125).2 44).2 (acc ++ [s.nodes.length]) gap X hg (fun x hx => hR x (by simp only [List.mem_cons] at hx ⊢; exact .inr hx)) (by simp only [List.length_cons] at hn; omega)
        (by simp only [List.length_cons] at hi; omega) (hB.deep.trans hd) hB.err (by omega) (by
          have h9 : At (signS (signS V.2 125).2 44).2 ((gap ++ (preI true gap (i + 1) ++ (it2.1 ++ tailI true gap (i + 1 + 1) its))) ++ X) := hB.at_
          rw [List.append_assoc, List.append_assoc, List.append_assoc] at h9
          exact h9)
      rw [hln2] at ih
      rw [hst, y1, if_neg (by simp), if_pos z1, q1]
      simp only [nodesI, List.length_append] at ih
      refine ⟨fun hm => ?_, fun hm => ih.2 (by omega)⟩
      obtain ⟨w1, w2⟩ := ih.1 (by omega)
      refine ⟨by rw [w1, List.append_assoc, show i + 1 + 1 + its.length = i + 1 + (it2 :: its).length by simp only [List.length_cons]; omega]; rfl, ?_⟩
      exact hB.trans w2
end Go.Proofs.YtfemncfhiihckaaDoor
