/- How a reader of JSON goes over pieces that are written out: plain, no program in sight. -/
import Derived.Test.YtfemncfhiihckaaDoorVsPRune
open Go Go.VS
namespace Go.Proofs.YtfemncfhiihckaaDoor
set_option linter.unusedVariables false
set_option linter.unusedSimpArgs false
set_option maxRecDepth 20000
set_option maxHeartbeats 4000000
/-- What is still to come. -/
def At (s : RJ) (X : List UInt8) : Prop := s.b.drop s.at_ = X ∧ s.at_ ≤ s.b.length
def AllB (ws : List UInt8) : Prop := ∀ x ∈ ws, blank x = true
structure Aft (s t : RJ) (N : List JN) (X : List UInt8) : Prop where
  b : t.b = s.b
  deep : t.deep = s.deep
  err : t.err = 0
  nodes : t.nodes = s.nodes ++ N
  at_ : At t X
theorem Aft.trans {s t u : RJ} {N M : List JN} {X Y : List UInt8} (h : Aft s t N X) (k : Aft t u M Y) : Aft s u (N ++ M) Y :=
  ⟨k.b.trans h.b, k.deep.trans h.deep, k.err, by rw [k.nodes, h.nodes, List.append_assoc], k.at_⟩
theorem Aft.trans0 {s t u : RJ} {M : List JN} {X Y : List UInt8} (h : Aft s t [] X) (k : Aft t u M Y) : Aft s u M Y := by
  have := h.trans k
  rwa [List.nil_append] at this
theorem At.move {s : RJ} {p X : List UInt8} (h : At s (p ++ X)) : At { s with at_ := s.at_ + p.length } X := by
  obtain ⟨h1, h2⟩ := h
  have hl := congrArg List.length h1
  simp only [List.length_drop, List.length_append] at hl
  refine ⟨?_, by show s.at_ + p.length ≤ s.b.length; omega⟩
  show s.b.drop (s.at_ + p.length) = X
  rw [← List.drop_drop, h1, List.drop_left' rfl]
theorem At.len {s : RJ} {X : List UInt8} (h : At s X) : s.b.length = s.at_ + X.length := by
  have hl := congrArg List.length h.1
  have := h.2
  simp only [List.length_drop] at hl
  omega
theorem At.get {s : RJ} {c : UInt8} {X : List UInt8} (h : At s (c :: X)) : s.at_ < s.b.length ∧ s.b.getD s.at_ default = c := by
  have hl := h.len
  simp only [List.length_cons] at hl
  have h1 := h.1
  rw [drop_at _ _ (by omega)] at h1
  exact ⟨by omega, (List.cons.inj h1).1⟩
theorem takeW {p : UInt8 → Bool} : ∀ (ws X : List UInt8), (∀ x ∈ ws, p x = true) → (∀ c, X.head? = some c → p c = false) → (ws ++ X).takeWhile p = ws
  | [], [], _, _ => rfl
  | [], c :: X, _, h => by
    have := h c rfl
    rw [List.nil_append, List.takeWhile_cons, this]
    rfl
  | w :: ws, X, h1, h2 => by
    rw [List.cons_append, List.takeWhile_cons, if_pos (h1 w (by simp)), takeW ws X (fun x hx => h1 x (by simp [hx])) h2]
theorem here_at {s : RJ} {ws X : List UInt8} {c : UInt8} (he : s.err = 0) (h : At s (ws ++ c :: X)) (hw : AllB ws) (hc : blank c = false) : (hereS s).1 = c ∧ Aft s (hereS s).2 [] (c :: X) := by
  have hm := h.move
  have hn : nextAt s.b s.at_ = s.at_ + ws.length := by
    unfold nextAt
    rw [h.1, takeW ws _ hw (fun d hd => by simp only [List.head?_cons, Option.some.injEq] at hd; rw [← hd]; exact hc)]
  have hg := hm.get
  unfold hereS
  rw [if_neg (by simpa using he)]
  simp only [hn]
  rw [if_pos hg.1]
  exact ⟨hg.2, rfl, rfl, he, (List.append_nil _).symm, hm⟩
theorem here_end {s : RJ} {ws : List UInt8} (he : s.err = 0) (h : At s ws) (hw : AllB ws) : (hereS s).1 = 0 ∧ Aft s (hereS s).2 [] [] := by
  have hm := At.move (X := []) (show At s (ws ++ []) by rw [List.append_nil]; exact h)
  have hl := h.len
  have hn : nextAt s.b s.at_ = s.at_ + ws.length := by
    unfold nextAt
    rw [h.1, show ws.takeWhile blank = ws from by have := takeW ws [] hw (fun d hd => by cases hd); rwa [List.append_nil] at this]
  unfold hereS
  rw [if_neg (by simpa using he)]
  simp only [hn]
  rw [if_neg (by omega)]
  exact ⟨rfl, rfl, rfl, he, (List.append_nil _).symm, hm⟩
theorem here_err {s : RJ} (he : s.err ≠ 0) : hereS s = (0, s) := by unfold hereS; rw [if_pos he]
theorem sign_err {s : RJ} (he : s.err ≠ 0) (c : UInt8) : (signS s c).1 = false ∧ (signS s c).2 = s := by
  unfold signS
  rw [here_err he, if_pos (.inr (.inl he))]
  exact ⟨rfl, rfl⟩
theorem fail_err {s : RJ} (he : s.err ≠ 0) (e : Nat) : s.fail e = s := by unfold RJ.fail; rw [if_neg he]
theorem sign_yes {s : RJ} {ws X : List UInt8} {c : UInt8} (he : s.err = 0) (h : At s (ws ++ c :: X)) (hw : AllB ws) (hc : blank c = false) : (signS s c).1 = true ∧ Aft s (signS s c).2 [] X := by
  obtain ⟨h1, h2⟩ := here_at he h hw hc
  have hg := h2.at_.get
  have hm := At.move (s := (hereS s).2) (p := [c]) (X := X) h2.at_
  unfold signS
  rw [if_neg (by rw [h1, h2.err]; simp; exact hg.1)]
  exact ⟨rfl, h2.b, h2.deep, h2.err, h2.nodes, hm⟩
theorem sign_no {s : RJ} {ws X : List UInt8} {c d : UInt8} (he : s.err = 0) (h : At s (ws ++ d :: X)) (hw : AllB ws) (hd : blank d = false) (hne : d ≠ c) : (signS s c).1 = false ∧ Aft s (signS s c).2 [] (d :: X) := by
  obtain ⟨h1, h2⟩ := here_at he h hw hd
  unfold signS
  rw [if_pos (.inl (by rw [h1]; exact hne))]
  exact ⟨rfl, h2⟩
/-- What may stand behind a value. -/
def stopR (X : List UInt8) : Prop := ∀ c, X.head? = some c → c = 44 ∨ c = 93 ∨ c = 125 ∨ blank c = true
theorem stop_app {ws X : List UInt8} {c : UInt8} (hw : AllB ws) (hc : c = 44 ∨ c = 93 ∨ c = 125) : stopR (ws ++ c :: X) := by
  intro d hd
  cases ws with
  | nil => simp at hd; subst hd; rcases hc with h | h | h <;> simp [h]
  | cons w ws => simp at hd; subst hd; exact .inr (.inr (.inr (hw w (by simp))))
/-- A text is read, and its nodes are these. -/
def Reads (val : RJ → Nat × RJ) (deep : Nat) (T : List UInt8) (N : Nat → List JN) : Prop :=
  ∀ (s : RJ) (ws X : List UInt8), s.deep = deep → s.err = 0 → s.nodes.length ≤ 256 → At s (ws ++ (T ++ X)) → AllB ws → stopR X →
    (s.nodes.length + (N s.nodes.length).length ≤ 256 → (val s).1 = s.nodes.length ∧ Aft s (val s).2 (N s.nodes.length) X) ∧
    (256 < s.nodes.length + (N s.nodes.length).length → (val s).2.err = 14)
abbrev It := List UInt8 × (Nat → List JN)
def preI (obj : Bool) (gap : List UInt8) (i : Nat) : List UInt8 := bif obj then [34, UInt8.ofNat (97 + i), 34] ++ (gap ++ 58 :: gap) else []
def tailI (obj : Bool) (gap : List UInt8) : Nat → List It → List UInt8
  | _, [] => gap ++ [shT obj]
  | i, it :: its => gap ++ 44 :: (gap ++ (preI obj gap i ++ (it.1 ++ tailI obj gap (i + 1) its)))
def bodyI (obj : Bool) (gap : List UInt8) : List It → List UInt8
  | [] => gap ++ [shT obj]
  | it :: its => gap ++ (preI obj gap 0 ++ (it.1 ++ tailI obj gap 1 its))
def nodesI : Nat → List It → List JN × List Nat
  | _, [] => ([], [])
  | base, it :: its => (it.2 base ++ (nodesI (base + (it.2 base).length) its).1, base :: (nodesI (base + (it.2 base).length) its).2)
theorem tail_stop (obj : Bool) (gap : List UInt8) (hg : AllB gap) (i : Nat) (its : List It) (X : List UInt8) : stopR (tailI obj gap i its ++ X) := by
  cases its with
  | nil => rw [tailI, List.append_assoc]; exact stop_app hg (by cases obj <;> simp [shT])
  | cons it its => rw [tailI, List.append_assoc]; exact stop_app hg (.inl rfl)
theorem arr_err {val : RJ → Nat × RJ} {s : RJ} (he : s.err ≠ 0) (ks : List Nat) : ∀ n, (arrS val n s ks).2 = s
  | 0 => rfl
  | n + 1 => by unfold arrS; rw [if_pos he]
theorem arr_reads {val : RJ → Nat × RJ} {deep : Nat} {gap : List UInt8} (hg : AllB gap) : ∀ (its : List It) (it : It) (n i : Nat) (s : RJ) (acc : List Nat) (ws X : List UInt8), AllB ws → (∀ x ∈ it :: its, Reads val deep x.1 x.2) → its.length < n →
    s.deep = deep → s.err = 0 → s.nodes.length ≤ 256 → At s (ws ++ (it.1 ++ (tailI false gap i its ++ X))) →
    (s.nodes.length + (nodesI s.nodes.length (it :: its)).1.length ≤ 256 → (arrS val n s acc).1 = acc ++ (nodesI s.nodes.length (it :: its)).2 ∧ Aft s (arrS val n s acc).2 (nodesI s.nodes.length (it :: its)).1 X) ∧
    (256 < s.nodes.length + (nodesI s.nodes.length (it :: its)).1.length → (arrS val n s acc).2.err = 14)
  | its, it, 0, i, s, acc, ws, X, _, _, hn, _, _, _, _ => by omega
  | its, it, n + 1, i, s, acc, ws, X, hw, hR, hn, hd, he, hl, h => by
    obtain ⟨r1, r2⟩ := hR it (by simp) s ws _ hd he hl h hw (tail_stop false gap hg i its X)
    have hbad : 256 < s.nodes.length + (it.2 s.nodes.length).length → (arrS val (n + 1) s acc).2.err = 14 := by
      intro hm
      have e14 := r2 hm
      have hne : (val s).2.err ≠ 0 := by rw [e14]; decide
      unfold arrS
      rw [if_neg (by simpa using he), (sign_err hne 93).1, (sign_err hne 93).2, (sign_err hne 44).1, (sign_err hne 44).2]
      simp only [Bool.false_eq_true, if_false]
      rw [fail_err hne, arr_err hne]
      exact e14
    cases its with
    | nil =>
      simp only [nodesI, List.append_nil]
      refine ⟨fun hm => ?_, hbad⟩
      obtain ⟨q1, q2⟩ := r1 hm
      have h3 := q2.at_
      rw [tailI, List.append_assoc] at h3
      obtain ⟨y1, y2⟩ := sign_yes q2.err h3 hg (by decide)
      unfold arrS
      rw [if_neg (by simpa using he), if_pos (show (signS (val s).2 93).1 = true from y1), q1]
      refine ⟨rfl, ?_⟩
      have := q2.trans y2
      rwa [List.append_nil] at this
    | cons it2 its =>
      simp only [nodesI, List.length_append] at *
      by_cases hm0 : 256 < s.nodes.length + (it.2 s.nodes.length).length
      · exact ⟨fun hm => by omega, fun _ => hbad hm0⟩
      obtain ⟨q1, q2⟩ := r1 (by omega)
      have h3 := q2.at_
      rw [tailI, List.append_assoc] at h3
      obtain ⟨y1, y2⟩ := sign_no (c := 93) q2.err h3 hg (by decide) (by decide)
      obtain ⟨z1, z2⟩ := sign_yes (ws := []) y2.err y2.at_ (fun _ hx => by cases hx) (by decide)
      have hA := (q2.trans y2).trans z2
      rw [List.append_nil, List.append_nil] at hA
      have hln : (signS (signS (val s).2 93).2 44).2.nodes.length = s.nodes.length + (it.2 s.nodes.length).length := by rw [hA.nodes, List.length_append]
      have ih := arr_reads hg its it2 n (i + 1) (signS (signS (val s).2 93).2 44).2 (acc ++ [s.nodes.length]) gap X hg (fun x hx => hR x (by simp only [List.mem_cons] at hx ⊢; exact .inr hx)) (by simp only [List.length_cons] at hn; omega)
        (hA.deep.trans hd) hA.err (by omega) (by
          have h9 : At (signS (signS (val s).2 93).2 44).2 ((gap ++ (it2.1 ++ tailI false gap (i + 1) its)) ++ X) := hA.at_
          rw [List.append_assoc, List.append_assoc] at h9
          exact h9)
      rw [hln] at ih
      have hst : arrS val (n + 1) s acc = arrS val n (signS (signS (val s).2 93).2 44).2 (acc ++ [s.nodes.length]) := by
        conv => lhs; unfold arrS
        rw [if_neg (by simpa using he), y1, if_neg (by simp), if_pos z1, q1]
      rw [hst]
      simp only [nodesI, List.length_append] at ih
      refine ⟨fun hm => ?_, fun hm => ih.2 (by omega)⟩
      obtain ⟨w1, w2⟩ := ih.1 (by omega)
      refine ⟨by rw [w1, List.append_assoc]; rfl, ?_⟩
      exact hA.trans w2
end Go.Proofs.YtfemncfhiihckaaDoor
