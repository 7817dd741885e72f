/- A rune's bytes are read as the rune; a text's signs that stand for themselves. -/
import Derived.Test.YtfemncfhiihckaaDoorVsMText
import Derived.Test.YtfemncfhiihckaaDoorVsJVal3
open Go Go.VS
namespace Go.Proofs.YtfemncfhiihckaaDoor
set_option linter.unusedVariables false
set_option linter.unusedSimpArgs false
set_option maxRecDepth 20000
set_option maxHeartbeats 4000000
theorem dec_rune (l : List UInt8) : ¬ (55296 ≤ (Go.Lib.decodeL l).1 ∧ (Go.Lib.decodeL l).1 < 57344) := by
  rw [Go.Lib.decodeL_N]
  have h0 := (l.getD 0 0).toNat_lt
  unfold Go.Lib.decodeN
  repeat' split
  all_goals simp only
  all_goals omega
theorem ofN (n : Nat) (h : n < 256) : (UInt8.ofNat n).toNat = n := by
  rw [UInt8.toNat_ofNat']; omega
theorem dec_enc (x : Nat) (hx : x < 1114112) (hs : ¬ (55296 ≤ x ∧ x < 57344)) (t : List UInt8) : Go.Lib.decodeL (encB x ++ t) = (x, (encB x).length) := by
  rw [Go.Lib.decodeL_N]
  unfold encB
  split
  · simp only [List.cons_append, List.nil_append, List.getD_cons_zero, ofN x (by omega)]
    unfold Go.Lib.decodeN
    rw [if_pos (by omega)]; rfl
  split
  · simp only [List.cons_append, List.nil_append, List.getD_cons_zero, List.getD_cons_succ, List.length_cons, ofN (192 + x / 64) (by omega), ofN (128 + x % 64) (by omega)]
    unfold Go.Lib.decodeN
    rw [if_neg (by omega), if_pos (by omega), if_pos (by omega)]
    congr 1 <;> simp <;> omega
  split
  · simp only [List.cons_append, List.nil_append, List.getD_cons_zero, List.getD_cons_succ, List.length_cons, ofN (224 + x / 4096) (by omega), ofN (128 + x / 64 % 64) (by omega), ofN (128 + x % 64) (by omega)]
    unfold Go.Lib.decodeN
    rw [if_neg (by omega), if_neg (by omega), if_pos (by omega), if_pos (by omega)]
    congr 1 <;> simp <;> omega
  · simp only [List.cons_append, List.nil_append, List.getD_cons_zero, List.getD_cons_succ, List.length_cons, ofN (240 + x / 262144) (by omega), ofN (128 + x / 4096 % 64) (by omega), ofN (128 + x / 64 % 64) (by omega), ofN (128 + x % 64) (by omega)]
    unfold Go.Lib.decodeN
    rw [if_neg (by omega), if_neg (by omega), if_neg (by omega), if_pos (by omega), if_pos (by omega)]
    congr 1 <;> simp <;> omega
theorem encode_eq (x : Nat) (hx : x < 1114112) (hs : ¬ (55296 ≤ x ∧ x < 57344)) : (Utf8.encode (x : Int)).data.toList = encB x := by
  have hv : Utf8.valid (x : Int) = true := by
    simp only [Utf8.valid, Bool.or_eq_true, Bool.and_eq_true, decide_eq_true_eq]
    omega
  unfold Utf8.encode encB
  simp only
  rw [hv, if_pos rfl, Int.toNat_natCast]
  by_cases h1 : x < 128
  · rw [if_pos h1, if_pos h1]
  rw [if_neg h1, if_neg h1]
  by_cases h2 : x < 2048
  · rw [if_pos h2, if_pos h2]
  rw [if_neg h2, if_neg h2]
  by_cases h3 : x < 65536
  · rw [if_pos h3, if_pos h3]
  rw [if_neg h3, if_neg h3]
/-- A rune that stands for itself. -/
def goodR (x : Nat) : Prop := x < 1114112 ∧ ¬ (55296 ≤ x ∧ x < 57344) ∧ 32 ≤ x ∧ x ≠ 34 ∧ x ≠ 92 ∧ x ≠ 65533
def Clean (p : List UInt8) : Prop := ∃ xs : List Nat, p = xs.flatMap encB ∧ ∀ x ∈ xs, goodR x
theorem plG_clean : ∀ (n : Nat) (out r : List UInt8), r.length ≤ n → Clean out → Clean (plG out r)
  | _, out, [], _, h => by rw [plG]; exact h
  | n + 1, out, c :: t, hn, h => by
    rw [plG]
    have hw := Go.Lib.decodeL_width (c :: t)
    refine plG_clean n _ _ (by simp only [List.length_drop, List.length_cons] at hn ⊢; omega) ?_
    unfold plStep
    split
    · rename_i hc
      obtain ⟨h1, h2, h3, h4, _⟩ := hc
      have hr := Go.Lib.decodeL_rune (c :: t)
      have hs := dec_rune (c :: t)
      rw [encode_eq _ (by omega) hs]
      obtain ⟨xs, rfl, hx⟩ := h
      refine ⟨xs ++ [(Go.Lib.decodeL (c :: t)).1], by simp, fun x hxm => ?_⟩
      rcases List.mem_append.1 hxm with hxm | hxm
      · exact hx x hxm
      · simp only [List.mem_singleton] at hxm
        subst hxm
        exact ⟨by omega, hs, h1, h2, h3, h4⟩
    · exact h
theorem plain_clean (s : List UInt8) : Clean (plainT s) := plG_clean s.length [] s (Nat.le_refl _) ⟨[], rfl, by simp⟩
/-- What a good rune's bytes begin with. -/
theorem enc_head (x : Nat) (h : goodR x) (t : List UInt8) : ∃ c r, encB x ++ t = c :: r ∧ c ≠ 34 ∧ ¬ c.toNat < 32 ∧ c ≠ 92 := by
  obtain ⟨h1, h2, h3, h4, h5, h6⟩ := h
  have ne : ∀ n : Nat, n < 256 → n ≠ 34 → n ≠ 92 → 32 ≤ n → (UInt8.ofNat n) ≠ 34 ∧ ¬ (UInt8.ofNat n).toNat < 32 ∧ (UInt8.ofNat n) ≠ 92 := fun n a b c d => by
    refine ⟨fun e => b ?_, by rw [ofN n a]; omega, fun e => c ?_⟩
    · have := congrArg UInt8.toNat e; rw [ofN n a] at this; exact this
    · have := congrArg UInt8.toNat e; rw [ofN n a] at this; exact this
  unfold encB
  split
  · exact ⟨_, _, rfl, ne x (by omega) h4 h5 h3⟩
  split
  · exact ⟨_, _, rfl, ne _ (by omega) (by omega) (by omega) (by omega)⟩
  split
  · exact ⟨_, _, rfl, ne _ (by omega) (by omega) (by omega) (by omega)⟩
  · exact ⟨_, _, rfl, ne _ (by omega) (by omega) (by omega) (by omega)⟩
theorem enc_pos (x : Nat) : 1 ≤ (encB x).length := by
  unfold encB
  (repeat' split) <;> simp
/-- A clean text is read as it is. -/
theorem tx_clean (b : List UInt8) (X : List UInt8) : ∀ (xs : List Nat) (n i : Nat) (out : List UInt8), (∀ x ∈ xs, goodR x) → b.drop i = xs.flatMap encB ++ 34 :: X → b.length < n + i →
    txC b n i out = (out ++ xs.flatMap encB, true, i + (xs.flatMap encB).length + 1)
  | xs, 0, i, out, _, hd, hn => by
    rw [List.drop_of_length_le (by omega)] at hd
    exact absurd (congrArg List.length hd) (by simp)
  | [], n + 1, i, out, _, hd, hn => by
    have hi : i < b.length := by
      rcases Nat.lt_or_ge i b.length with h | h
      · exact h
      · rw [List.drop_of_length_le h] at hd; exact absurd (congrArg List.length hd) (by simp)
    rw [drop_at b i hi] at hd
    simp only [List.flatMap_nil, List.nil_append, List.cons.injEq] at hd
    unfold txC
    rw [if_neg (by omega), if_pos hd.1]
    simp
  | x :: xs, n + 1, i, out, hg, hd, hn => by
    have hi : i < b.length := by
      rcases Nat.lt_or_ge i b.length with h | h
      · exact h
      · rw [List.drop_of_length_le h] at hd; exact absurd (congrArg List.length hd) (by simp)
    rw [List.flatMap_cons, List.append_assoc] at hd
    have hgx := hg x (by simp)
    obtain ⟨c, r, e1, e2, e3, e4⟩ := enc_head x hgx (xs.flatMap encB ++ 34 :: X)
    have hdec := dec_enc x hgx.1 hgx.2.1 (xs.flatMap encB ++ 34 :: X)
    have hp := enc_pos x
    have hc : b.getD i default = c := by
      have := hd
      rw [drop_at b i hi, e1] at this
      exact (List.cons.inj this).1
    unfold txC
    rw [if_neg (by omega), hc, if_neg e2, if_neg e3, if_neg e4, hd, hdec, if_neg (by simp only; exact fun h => hgx.2.2.2.2.2 h.1)]
    simp only
    rw [List.take_left' rfl, tx_clean b X xs n (i + (encB x).length) (out ++ encB x) (fun y hy => hg y (by simp [hy])) (by rw [← List.drop_drop, hd, List.drop_left' rfl]) (by omega)]
    rw [List.flatMap_cons, List.append_assoc, List.length_append]
    congr 2
    omega
end Go.Proofs.YtfemncfhiihckaaDoor
open Go Go.VS
namespace Go.Proofs.YtfemncfhiihckaaDoor
set_option linter.unusedVariables false
set_option linter.unusedSimpArgs false
set_option maxRecDepth 20000
set_option maxHeartbeats 4000000
/-- What is still to come. -/
def At (s : RJ) (X : List UInt8) : Prop := s.b.drop s.at_ = X ∧ s.at_ ≤ s.b.length
def AllB (ws : List UInt8) : Prop := ∀ x ∈ ws, blank x = true
structure Aft (s t : RJ) (N : List JN) (X : List UInt8) : Prop where
  b : t.b = s.b
  deep : t.deep = s.deep
  err : t.err = 0
  nodes : t.nodes = s.nodes ++ N
  at_ : At t X
theorem Aft.trans {s t u : RJ} {N M : List JN} {X Y : List UInt8} (h : Aft s t N X) (k : Aft t u M Y) : Aft s u (N ++ M) Y :=
  ⟨k.b.trans h.b, k.deep.trans h.deep, k.err, by rw [k.nodes, h.nodes, List.append_assoc], k.at_⟩
theorem Aft.trans0 {s t u : RJ} {M : List JN} {X Y : List UInt8} (h : Aft s t [] X) (k : Aft t u M Y) : Aft s u M Y := by
  have := h.trans k
  rwa [List.nil_append] at this
theorem At.move {s : RJ} {p X : List UInt8} (h : At s (p ++ X)) : At { s with at_ := s.at_ + p.length } X := by
  obtain ⟨h1, h2⟩ := h
  have hl := congrArg List.length h1
  simp only [List.length_drop, List.length_append] at hl
  refine ⟨?_, by show s.at_ + p.length ≤ s.b.length; omega⟩
  show s.b.drop (s.at_ + p.length) = X
  rw [← List.drop_drop, h1, List.drop_left' rfl]
theorem At.len {s : RJ} {X : List UInt8} (h : At s X) : s.b.length = s.at_ + X.length := by
  have hl := congrArg List.length h.1
  have := h.2
  simp only [List.length_drop] at hl
  omega
theorem At.get {s : RJ} {c : UInt8} {X : List UInt8} (h : At s (c :: X)) : s.at_ < s.b.length ∧ s.b.getD s.at_ default = c := by
  have hl := h.len
  simp only [List.length_cons] at hl
  have h1 := h.1
  rw [drop_at _ _ (by omega)] at h1
  exact ⟨by omega, (List.cons.inj h1).1⟩
theorem takeW {p : UInt8 → Bool} : ∀ (ws X : List UInt8), (∀ x ∈ ws, p x = true) → (∀ c, X.head? = some c → p c = false) → (ws ++ X).takeWhile p = ws
  | [], [], _, _ => rfl
  | [], c :: X, _, h => by
    have := h c rfl
    rw [List.nil_append, List.takeWhile_cons, this]
    rfl
  | w :: ws, X, h1, h2 => by
    rw [List.cons_append, List.takeWhile_cons, if_pos (h1 w (by simp)), takeW ws X (fun x hx => h1 x (by simp [hx])) h2]
theorem here_at {s : RJ} {ws X : List UInt8} {c : UInt8} (he : s.err = 0) (h : At s (ws ++ c :: X)) (hw : AllB ws) (hc : blank c = false) : (hereS s).1 = c ∧ Aft s (hereS s).2 [] (c :: X) := by
  have hm := h.move
  have hn : nextAt s.b s.at_ = s.at_ + ws.length := by
    unfold nextAt
    rw [h.1, takeW ws _ hw (fun d hd => by simp only [List.head?_cons, Option.some.injEq] at hd; rw [← hd]; exact hc)]
  have hg := hm.get
  unfold hereS
  rw [if_neg (by simpa using he)]
  simp only [hn]
  rw [if_pos hg.1]
  exact ⟨hg.2, rfl, rfl, he, (List.append_nil _).symm, hm⟩
theorem here_end {s : RJ} {ws : List UInt8} (he : s.err = 0) (h : At s ws) (hw : AllB ws) : (hereS s).1 = 0 ∧ Aft s (hereS s).2 [] [] := by
  have hm := At.move (X := []) (show At s (ws ++ []) by rw [List.append_nil]; exact h)
  have hl := h.len
  have hn : nextAt s.b s.at_ = s.at_ + ws.length := by
    unfold nextAt
    rw [h.1, show ws.takeWhile blank = ws from by have := takeW ws [] hw (fun d hd => by cases hd); rwa [List.append_nil] at this]
  unfold hereS
  rw [if_neg (by simpa using he)]
  simp only [hn]
  rw [if_neg (by omega)]
  exact ⟨rfl, rfl, rfl, he, (List.append_nil _).symm, hm⟩
theorem here_err {s : RJ} (he : s.err ≠ 0) : hereS s = (0, s) := by unfold hereS; rw [if_pos he]
theorem sign_err {s : RJ} (he : s.err ≠ 0) (c : UInt8) : (signS s c).1 = false ∧ (signS s c).2 = s := by
  unfold signS
  rw [here_err he, if_pos (.inr (.inl he))]
  exact ⟨rfl, rfl⟩
theorem fail_err {s : RJ} (he : s.err ≠ 0) (e : Nat) : s.fail e = s := by unfold RJ.fail; rw [if_neg he]
theorem sign_yes {s : RJ} {ws X : List UInt8} {c : UInt8} (he : s.err = 0) (h : At s (ws ++ c :: X)) (hw : AllB ws) (hc : blank c = false) : (signS s c).1 = true ∧ Aft s (signS s c).2 [] X := by
  obtain ⟨h1, h2⟩ := here_at he h hw hc
  have hg := h2.at_.get
  have hm := At.move (s := (hereS s).2) (p := [c]) (X := X) h2.at_
  unfold signS
  rw [if_neg (by rw [h1, h2.err]; simp; exact hg.1)]
  exact ⟨rfl, h2.b, h2.deep, h2.err, h2.nodes, hm⟩
theorem sign_no {s : RJ} {ws X : List UInt8} {c d : UInt8} (he : s.err = 0) (h : At s (ws ++ d :: X)) (hw : AllB ws) (hd : blank d = false) (hne : d ≠ c) : (signS s c).1 = false ∧ Aft s (signS s c).2 [] (d :: X) := by
  obtain ⟨h1, h2⟩ := here_at he h hw hd
  unfold signS
  rw [if_pos (.inl (by rw [h1]; exact hne))]
  exact ⟨rfl, h2⟩
/-- What may stand behind a value. -/
def stopR (X : List UInt8) : Prop := ∀ c, X.head? = some c → c = 44 ∨ c = 93 ∨ c = 125 ∨ blank c = true
theorem stop_app {ws X : List UInt8} {c : UInt8} (hw : AllB ws) (hc : c = 44 ∨ c = 93 ∨ c = 125) : stopR (ws ++ c :: X) := by
  intro d hd
  cases ws with
  | nil => simp at hd; subst hd; rcases hc with h | h | h <;> simp [h]
  | cons w ws => simp at hd; subst hd; exact .inr (.inr (.inr (hw w (by simp))))
/-- A text is read, and its nodes are these. -/
def Reads (val : RJ → Nat × RJ) (deep : Nat) (T : List UInt8) (N : Nat → List JN) : Prop :=
  ∀ (s : RJ) (ws X : List UInt8), s.deep = deep → s.err = 0 → s.nodes.length ≤ 256 → At s (ws ++ (T ++ X)) → AllB ws → stopR X →
    (s.nodes.length + (N s.nodes.length).length ≤ 256 → (val s).1 = s.nodes.length ∧ Aft s (val s).2 (N s.nodes.length) X) ∧
    (256 < s.nodes.length + (N s.nodes.length).length → (val s).2.err = 14)
abbrev It := List UInt8 × (Nat → List JN)
def preI (obj : Bool) (gap : List UInt8) (i : Nat) : List UInt8 := bif obj then [34, UInt8.ofNat (97 + i), 34] ++ (gap ++ 58 :: gap) else []
def tailI (obj : Bool) (gap : List UInt8) : Nat → List It → List UInt8
  | _, [] => gap ++ [shT obj]
  | i, it :: its => gap ++ 44 :: (gap ++ (preI obj gap i ++ (it.1 ++ tailI obj gap (i + 1) its)))
def bodyI (obj : Bool) (gap : List UInt8) : List It → List UInt8
  | [] => gap ++ [shT obj]
  | it :: its => gap ++ (preI obj gap 0 ++ (it.1 ++ tailI obj gap 1 its))
def nodesI : Nat → List It → List JN × List Nat
  | _, [] => ([], [])
  | base, it :: its => (it.2 base ++ (nodesI (base + (it.2 base).length) its).1, base :: (nodesI (base + (it.2 base).length) its).2)
theorem tail_stop (obj : Bool) (gap : List UInt8) (hg : AllB gap) (i : Nat) (its : List It) (X : List UInt8) : stopR (tailI obj gap i its ++ X) := by
  cases its with
  | nil => rw [tailI, List.append_assoc]; exact stop_app hg (by cases obj <;> simp [shT])
  | cons it its => rw [tailI, List.append_assoc]; exact stop_app hg (.inl rfl)
theorem arr_err {val : RJ → Nat × RJ} {s : RJ} (he : s.err ≠ 0) (ks : List Nat) : ∀ n, (arrS val n s ks).2 = s
  | 0 => rfl
  | n + 1 => by unfold arrS; rw [if_pos he]
theorem arr_reads {val : RJ → Nat × RJ} {deep : Nat} {gap : List UInt8} (hg : AllB gap) : ∀ (its : List It) (it : It) (n i : Nat) (s : RJ) (acc : List Nat) (ws X : List UInt8), AllB ws → (∀ x ∈ it :: its, Reads val deep x.1 x.2) → its.length < n →
    s.deep = deep → s.err = 0 → s.nodes.length ≤ 256 → At s (ws ++ (it.1 ++ (tailI false gap i its ++ X))) →
    (s.nodes.length + (nodesI s.nodes.length (it :: its)).1.length ≤ 256 → (arrS val n s acc).1 = acc ++ (nodesI s.nodes.length (it :: its)).2 ∧ Aft s (arrS val n s acc).2 (nodesI s.nodes.length (it :: its)).1 X) ∧
    (256 < s.nodes.length + (nodesI s.nodes.length (it :: its)).1.length → (arrS val n s acc).2.err = 14)
  | its, it, 0, i, s, acc, ws, X, _, _, hn, _, _, _, _ => by omega
  | its, it, n + 1, i, s, acc, ws, X, hw, hR, hn, hd, he, hl, h => by
    obtain ⟨r1, r2⟩ := hR it (by simp) s ws _ hd he hl h hw (tail_stop false gap hg i its X)
    have hbad : 256 < s.nodes.length + (it.2 s.nodes.length).length → (arrS val (n + 1) s acc).2.err = 14 := by
      intro hm
      have e14 := r2 hm
      have hne : (val s).2.err ≠ 0 := by rw [e14]; decide
      unfold arrS
      rw [if_neg (by simpa using he), (sign_err hne 93).1, (sign_err hne 93).2, (sign_err hne 44).1, (sign_err hne 44).2]
      simp only [Bool.false_eq_true, if_false]
      rw [fail_err hne, arr_err hne]
      exact e14
    cases its with
    | nil =>
      simp only [nodesI, List.append_nil]
      refine ⟨fun hm => ?_, hbad⟩
      obtain ⟨q1, q2⟩ := r1 hm
      have h3 := q2.at_
      rw [tailI, List.append_assoc] at h3
      obtain ⟨y1, y2⟩ := sign_yes q2.err h3 hg (by decide)
      unfold arrS
      rw [if_neg (by simpa using he), if_pos (show (signS (val s).2 93).1 = true from y1), q1]
      refine ⟨rfl, ?_⟩
      have := q2.trans y2
      rwa [List.append_nil] at this
    | cons it2 its =>
      simp only [nodesI, List.length_append] at *
      by_cases hm0 : 256 < s.nodes.length + (it.2 s.nodes.length).length
      · exact ⟨fun hm => by omega, fun _ => hbad hm0⟩
      obtain ⟨q1, q2⟩ := r1 (by omega)
      have h3 := q2.at_
      rw [tailI, List.append_assoc] at h3
      obtain ⟨y1, y2⟩ := sign_no (c := 93) q2.err h3 hg (by decide) (by decide)
      obtain ⟨z1, z2⟩ := sign_yes (ws := []) y2.err y2.at_ (fun _ hx => by cases hx) (by decide)
      have hA := (q2.trans y2).trans z2
      rw [List.append_nil, List.append_nil] at hA
      have hln : (signS (signS (val s).2 93).2 44).2.nodes.length = s.nodes.length + (it.2 s.nodes.length).length := by rw [hA.nodes, List.length_append]
      have ih := arr_reads hg its it2 n (i + 1) (signS (signS (val s).2 93).2 44).2 (acc ++ [s.nodes.length]) gap X hg (fun x hx => hR x (by simp only [List.mem_cons] at hx ⊢; exact .inr hx)) (by simp only [List.length_cons] at hn; omega)
        (hA.deep.trans hd) hA.err (by omega) (by
          have h9 : At (signS (signS (val s).2 93).2 44).2 ((gap ++ (it2.1 ++ tailI false gap (i + 1) its)) ++ X) := hA.at_
          rw [List.append_assoc, List.append_assoc] at h9
          exact h9)
      rw [hln] at ih
      have hst : arrS val (n + 1) s acc = arrS val n (signS (signS (val s).2 93).2 44).2 (acc ++ [s.nodes.length]) := by
        conv => lhs; unfold arrS
        rw [if_neg (by simpa using he), y1, if_neg (by simp), if_pos z1, q1]
      rw [hst]
      simp only [nodesI, List.length_append] at ih
      refine ⟨fun hm => ?_, fun hm => ih.2 (by omega)⟩
      obtain ⟨w1, w2⟩ := ih.1 (by omega)
      refine ⟨by rw [w1, List.append_assoc]; rfl, ?_⟩
      exact hA.trans w2
end Go.Proofs.YtfemncfhiihckaaDoor
open Go Go.VS
namespace Go.Proofs.YtfemncfhiihckaaDoor
set_option linter.unusedVariables false
set_option linter.unusedSimpArgs false
set_option maxRecDepth 20000
set_option maxHeartbeats 4000000
theorem text_reads {s : RJ} {X : List UInt8} {xs : List Nat} (he : s.err = 0) (h : At s (34 :: (xs.flatMap encB ++ 34 :: X))) (hx : ∀ x ∈ xs, goodR x) : (textS s).1 = xs.flatMap encB ∧ Aft s (textS s).2 [] X := by
  have hm := At.move (p := [34]) h
  have hl := h.len
  have ht := tx_clean s.b X xs (s.b.length + 1) (s.at_ + 1) [] hx hm.1 (by omega)
  have hm2 := At.move (p := 34 :: (xs.flatMap encB ++ [34])) (X := X) (show At s _ by simpa using h)
  unfold textS
  rw [ht]
  simp only [List.nil_append, if_true]
  refine ⟨trivial, rfl, rfl, he, (List.append_nil _).symm, ?_⟩
  have e : s.at_ + (34 :: (xs.flatMap encB ++ [34])).length = s.at_ + 1 + (xs.flatMap encB).length + 1 := by simp only [List.length_cons, List.length_append, List.length_nil]; omega
  rw [e] at hm2
  exact hm2
def nmI (j : Nat) : List UInt8 := [UInt8.ofNat (97 + j)]
theorem nm_enc (j : Nat) (h : j < 20) : nmI j = [97 + j].flatMap encB := by
  simp only [List.flatMap_cons, List.flatMap_nil, List.append_nil]
  unfold encB
  rw [if_pos (by omega)]
  rfl
theorem nm_good (j : Nat) (h : j < 20) : ∀ x ∈ [97 + j], goodR x := by
  intro x hx
  simp only [List.mem_singleton] at hx
  subst hx
  unfold goodR
  omega
theorem nm_new (i : Nat) (h : i < 20) : nmI i ∉ (List.range i).map nmI := by
  intro hm
  obtain ⟨j, hj, e⟩ := List.mem_map.1 hm
  have hji : j < i := List.mem_range.1 hj
  have := congrArg UInt8.toNat (List.cons.inj e).1
  rw [ofN _ (by omega), ofN _ (by omega)] at this
  omega
theorem obj_err {val : RJ → Nat × RJ} {s : RJ} (he : s.err ≠ 0) (ns : List (List UInt8)) (ks : List Nat) : ∀ n, (objS val n s ns ks).2 = s
  | 0 => rfl
  | n + 1 => by unfold objS; rw [if_pos he]
theorem obj_reads {val : RJ → Nat × RJ} {deep : Nat} {gap : List UInt8} (hg : AllB gap) : ∀ (its : List It) (it : It) (n i : Nat) (s : RJ) (acc : List Nat) (ws X : List UInt8), AllB ws → (∀ x ∈ it :: its, Reads val deep x.1 x.2) → its.length < n → i + its.length < 20 →
    s.deep = deep → s.err = 0 → s.nodes.length ≤ 256 → At s (ws ++ (preI true gap i ++ (it.1 ++ (tailI true gap (i + 1) its ++ X)))) →
    (s.nodes.length + (nodesI s.nodes.length (it :: its)).1.length ≤ 256 → (objS val n s ((List.range i).map nmI) acc).1 = ((List.range (i + 1 + its.length)).map nmI, acc ++ (nodesI s.nodes.length (it :: its)).2) ∧ Aft s (objS val n s ((List.range i).map nmI) acc).2 (nodesI s.nodes.length (it :: its)).1 X) ∧
    (256 < s.nodes.length + (nodesI s.nodes.length (it :: its)).1.length → (objS val n s ((List.range i).map nmI) acc).2.err = 14)
  | its, it, 0, i, s, acc, ws, X, _, _, hn, _, _, _, _, _ => by omega
  | its, it, n + 1, i, s, acc, ws, X, hw, hR, hn, hi, hd, he, hl, h => by
    have h0 : At s (ws ++ 34 :: (nmI i ++ 34 :: (gap ++ 58 :: (gap ++ (it.1 ++ (tailI true gap (i + 1) its ++ X)))))) := by
      simpa [preI, nmI, List.append_assoc] using h
    obtain ⟨a1, a2⟩ := here_at he h0 hw (by decide)
    have a3 := a2.at_
    rw [nm_enc i (by omega)] at a3
    obtain ⟨b1, b2⟩ := text_reads a2.err a3 (nm_good i (by omega))
    rw [← nm_enc i (by omega)] at b1
    obtain ⟨c1, c2⟩ := sign_yes b2.err b2.at_ hg (by decide)
    have hA := (a2.trans b2).trans c2
    simp only [List.append_nil] at hA
    have hln : (signS (textS (hereS s).2).2 58).2.nodes = s.nodes := by rw [hA.nodes, List.append_nil]
    obtain ⟨r1, r2⟩ := hR it (by simp) _ gap _ (hA.deep.trans hd) hA.err (by rw [hln]; exact hl) hA.at_ hg (tail_stop true gap hg (i + 1) its X)
    rw [hln] at r1 r2
    have hst : ∀ acc : List Nat, objS val (n + 1) s ((List.range i).map nmI) acc = (if (signS (val (signS (textS (hereS s).2).2 58).2).2 125).1 = true then (((List.range i).map nmI ++ [nmI i], acc ++ [(val (signS (textS (hereS s).2).2 58).2).1]), (signS (val (signS (textS (hereS s).2).2 58).2).2 125).2)
        else objS val n (if (signS (signS (val (signS (textS (hereS s).2).2 58).2).2 125).2 44).1 = true then (signS (signS (val (signS (textS (hereS s).2).2 58).2).2 125).2 44).2 else (signS (signS (val (signS (textS (hereS s).2).2 58).2).2 125).2 44).2.fail 11) ((List.range i).map nmI ++ [nmI i]) (acc ++ [(val (signS (textS (hereS s).2).2 58).2).1])) := by
      intro acc
      conv => lhs; unfold objS
      rw [if_neg (by simpa using he), if_neg (by simpa using a1)]
      simp only [b1, if_neg (nm_new i (by omega)), c1, if_true]
    have hrg : (List.range i).map nmI ++ [nmI i] = (List.range (i + 1)).map nmI := by rw [List.range_succ, List.map_append]; rfl
    rw [hrg] at hst
    generalize hV : val (signS (textS (hereS s).2).2 58).2 = V at *
    have hbad : 256 < s.nodes.length + (it.2 s.nodes.length).length → (objS val (n + 1) s ((List.range i).map nmI) acc).2.err = 14 := by
      intro hm
      have e14 := r2 hm
      have hne : V.2.err ≠ 0 := by rw [e14]; decide
      rw [hst, (sign_err hne 125).1, (sign_err hne 125).2, (sign_err hne 44).1, (sign_err hne 44).2]
      simp only [Bool.false_eq_true, if_false]
      rw [fail_err hne, obj_err hne]
      exact e14
    cases its with
    | nil =>
      simp only [nodesI, List.append_nil]
      refine ⟨fun hm => ?_, hbad⟩
      obtain ⟨q1, q2⟩ := r1 hm
      have h3 := q2.at_
      rw [tailI, List.append_assoc] at h3
      obtain ⟨y1, y2⟩ := sign_yes q2.err h3 hg (by decide)
      rw [hst, if_pos (show (signS V.2 125).1 = true from y1), q1]
      refine ⟨rfl, ?_⟩
      have := (hA.trans q2).trans y2
      rwa [List.append_nil, List.nil_append] at this
    | cons it2 its =>
      simp only [nodesI, List.length_append] at *
      by_cases hm0 : 256 < s.nodes.length + (it.2 s.nodes.length).length
      · exact ⟨fun hm => by omega, fun _ => hbad hm0⟩
      obtain ⟨q1, q2⟩ := r1 (by omega)
      have h3 := q2.at_
      rw [tailI, List.append_assoc] at h3
      obtain ⟨y1, y2⟩ := sign_no (c := 125) q2.err h3 hg (by decide) (by decide)
      obtain ⟨z1, z2⟩ := sign_yes (ws := []) y2.err y2.at_ (fun _ hx => by cases hx) (by decide)
      have hB := ((hA.trans q2).trans y2).trans z2
      simp only [List.append_nil, List.nil_append] at hB
      have hln2 : (signS (signS V.2 125).2 44).2.nodes.length = s.nodes.length + (it.2 s.nodes.length).length := by rw [hB.nodes, List.length_append]
      have ih := obj_reads hg its it2 n (i + 1) (signS (signS V.2 125).2 44).2 (acc ++ [s.nodes.length]) gap X hg (fun x hx => hR x (by simp only [List.mem_cons] at hx ⊢; exact .inr hx)) (by simp only [List.length_cons] at hn; omega)
        (by simp only [List.length_cons] at hi; omega) (hB.deep.trans hd) hB.err (by omega) (by
          have h9 : At (signS (signS V.2 125).2 44).2 ((gap ++ (preI true gap (i + 1) ++ (it2.1 ++ tailI true gap (i + 1 + 1) its))) ++ X) := hB.at_
          rw [List.append_assoc, List.append_assoc, List.append_assoc] at h9
          exact h9)
      rw [hln2] at ih
      rw [hst, y1, if_neg (by simp), if_pos z1, q1]
      simp only [nodesI, List.length_append] at ih
      refine ⟨fun hm => ?_, fun hm => ih.2 (by omega)⟩
      obtain ⟨w1, w2⟩ := ih.1 (by omega)
      refine ⟨by rw [w1, List.append_assoc, show i + 1 + 1 + its.length = i + 1 + (it2 :: its).length by simp only [List.length_cons]; omega]; rfl, ?_⟩
      exact hB.trans w2
end Go.Proofs.YtfemncfhiihckaaDoor
open Go Go.VS
namespace Go.Proofs.YtfemncfhiihckaaDoor
set_option linter.unusedVariables false
set_option linter.unusedSimpArgs false
set_option maxRecDepth 20000
set_option maxHeartbeats 4000000
theorem drop_lt {b Y : List UInt8} {i : Nat} {c : UInt8} (h : b.drop i = c :: Y) : i < b.length ∧ b.getD i default = c := by
  have hi : i < b.length := by
    rcases Nat.lt_or_ge i b.length with h' | h'
    · exact h'
    · rw [List.drop_of_length_le h'] at h; cases h
  rw [drop_at b i hi] at h
  exact ⟨hi, (List.cons.inj h).1⟩
theorem isP_yes {b Y l : List UInt8} {i : Nat} {c : UInt8} (h : b.drop i = c :: Y) (hc : c ∈ l) : isP b i l = (true, i + 1) := by
  obtain ⟨h1, h2⟩ := drop_lt h
  unfold isP
  rw [if_pos ⟨h1, by rw [h2]; exact hc⟩]
theorem isP_no {b Y l : List UInt8} {i : Nat} (h : b.drop i = Y) (hc : ∀ c, Y.head? = some c → c ∉ l) : isP b i l = (false, i) := by
  unfold isP
  rw [if_neg]
  rintro ⟨h1, h2⟩
  rw [drop_at b i h1] at h
  exact hc _ (by rw [← h]; rfl) h2
theorem digP_eq {b ds Y : List UInt8} {i : Nat} (h : b.drop i = ds ++ Y) (hd : ∀ c ∈ ds, digit c = true) (hY : ∀ c, Y.head? = some c → digit c = false) : digP b i = (decide (0 < ds.length), i + ds.length) := by
  have e : digAt b i = i + ds.length := by
    unfold digAt
    rw [h, takeW ds Y hd hY]
  unfold digP
  rw [e]
  congr 1
  exact decide_eq_decide.2 ⟨fun h => by omega, fun h => by omega⟩
theorem stop_not {X : List UInt8} (h : stopR X) : (∀ c, X.head? = some c → digit c = false) ∧ (∀ c, X.head? = some c → c ∉ ([46] : List UInt8)) ∧ (∀ c, X.head? = some c → c ∉ ([101, 69] : List UInt8)) := by
  have key : ∀ c, X.head? = some c → c = 44 ∨ c = 93 ∨ c = 125 ∨ c = 32 ∨ c = 9 ∨ c = 10 ∨ c = 13 := by
    intro c hc
    rcases h c hc with h | h | h | h
    · simp [h]
    · simp [h]
    · simp [h]
    · simp only [blank, Bool.or_eq_true, beq_iff_eq] at h
      rcases h with ((h | h) | h) | h <;> simp [h]
  refine ⟨fun c hc => ?_, fun c hc => ?_, fun c hc => ?_⟩ <;> rcases key c hc with h | h | h | h | h | h | h <;> subst h <;> decide
theorem drop_add {b P X : List UInt8} {i : Nat} (h : b.drop i = P ++ X) (k : Nat) (hk : k ≤ P.length) : b.drop (i + k) = P.drop k ++ X := by
  rw [← List.drop_drop, h, List.drop_append_of_le_length hk]
theorem num_pos {b X : List UInt8} {i : Nat} (j : Nat) (hX : stopR X) (h : b.drop i = numsT j ++ X) : numP b i = (true, i + (numsT j).length) := by
  obtain ⟨hX1, hX2, hX3⟩ := stop_not hX
  match j, h with
  | 0, h =>
    have a1 : isP b i [45] = (false, i) := isP_no h (fun c hc => by simp [numsT] at hc; subst hc; decide)
    have a2 : digP b i = (true, i + 1) := digP_eq (ds := [48]) h (by simp [digit]) hX1
    have h1 : b.drop (i + 1) = X := drop_add h 1 (by simp [numsT])
    have a3 := isP_no (l := [46]) h1 hX2
    have a4 := isP_no (l := [101, 69]) h1 hX3
    unfold numP numP2 numP4
    simp [a1, a2, a3, a4, numsT]
  | 1, h =>
    have a1 : isP b i [45] = (true, i + 1) := isP_yes h (by simp)
    have h1 : b.drop (i + 1) = [49, 50] ++ X := drop_add h 1 (by simp [numsT])
    have a2 : digP b (i + 1) = (true, i + 1 + 2) := digP_eq (ds := [49, 50]) h1 (by simp [digit]) hX1
    have h2 : b.drop (i + 1 + 2) = X := drop_add h1 2 (by simp)
    have a3 := isP_no (l := [46]) h2 hX2
    have a4 := isP_no (l := [101, 69]) h2 hX3
    have a5 := (drop_lt h1).2
    unfold numP numP2 numP4
    rw [a1]
    simp only [a2, a5]
    simp [a3, a4, numsT]
  | 2, h =>
    have a1 : isP b i [45] = (false, i) := isP_no h (fun c hc => by simp [numsT] at hc; subst hc; decide)
    have a2 : digP b i = (true, i + 1) := digP_eq (ds := [49]) (Y := [46, 53, 101, 43, 51] ++ X) h (by simp [digit]) (fun c hc => by simp at hc; subst hc; decide)
    have h1 : b.drop (i + 1) = [46, 53, 101, 43, 51] ++ X := drop_add h 1 (by simp [numsT])
    have a3 : isP b (i + 1) [46] = (true, i + 1 + 1) := isP_yes h1 (by simp)
    have h2 : b.drop (i + 1 + 1) = [53, 101, 43, 51] ++ X := drop_add h1 1 (by simp)
    have a4 : digP b (i + 1 + 1) = (true, i + 1 + 1 + 1) := digP_eq (ds := [53]) (Y := [101, 43, 51] ++ X) h2 (by simp [digit]) (fun c hc => by simp at hc; subst hc; decide)
    have h3 : b.drop (i + 1 + 1 + 1) = [101, 43, 51] ++ X := drop_add h2 1 (by simp)
    have a5 : isP b (i + 1 + 1 + 1) [101, 69] = (true, i + 1 + 1 + 1 + 1) := isP_yes h3 (by simp)
    have h4 : b.drop (i + 1 + 1 + 1 + 1) = [43, 51] ++ X := drop_add h3 1 (by simp)
    have a6 : isP b (i + 1 + 1 + 1 + 1) [43, 45] = (true, i + 1 + 1 + 1 + 1 + 1) := isP_yes h4 (by simp)
    have h5 : b.drop (i + 1 + 1 + 1 + 1 + 1) = [51] ++ X := drop_add h4 1 (by simp)
    have a7 : digP b (i + 1 + 1 + 1 + 1 + 1) = (true, i + 1 + 1 + 1 + 1 + 1 + 1) := digP_eq (ds := [51]) h5 (by simp [digit]) hX1
    unfold numP numP2 numP4
    simp [a1, a2, a3, a4, a5, a6, a7, numsT]
  | n + 3, h =>
    have h : b.drop i = [49, 48, 69, 45, 50] ++ X := h
    have a1 : isP b i [45] = (false, i) := isP_no h (fun c hc => by simp at hc; subst hc; decide)
    have a2 : digP b i = (true, i + 2) := digP_eq (ds := [49, 48]) (Y := [69, 45, 50] ++ X) h (by simp [digit]) (fun c hc => by simp at hc; subst hc; decide)
    have h1 : b.drop (i + 2) = [69, 45, 50] ++ X := drop_add h 2 (by simp)
    have a3 : isP b (i + 2) [46] = (false, i + 2) := isP_no h1 (fun c hc => by simp at hc; subst hc; decide)
    have a4 : isP b (i + 2) [101, 69] = (true, i + 2 + 1) := isP_yes h1 (by simp)
    have h2 : b.drop (i + 2 + 1) = [45, 50] ++ X := drop_add h1 1 (by simp)
    have a5 : isP b (i + 2 + 1) [43, 45] = (true, i + 2 + 1 + 1) := isP_yes h2 (by simp)
    have h3 : b.drop (i + 2 + 1 + 1) = [50] ++ X := drop_add h2 1 (by simp)
    have a6 : digP b (i + 2 + 1 + 1) = (true, i + 2 + 1 + 1 + 1) := digP_eq (ds := [50]) h3 (by simp [digit]) hX1
    have a7 := (drop_lt (show b.drop i = 49 :: ([48, 69, 45, 50] ++ X) from h)).2
    unfold numP numP2 numP4
    rw [a1]
    simp only [a2, a7]
    simp [a3, a4, a5, a6, numsT]
/-- One step of a value, told by what its body comes to. -/
theorem value_reads {val : RJ → Nat × RJ} {deep : Nat} {c : UInt8} {T : List UInt8} {N : Nat → List JN} (hc : blank c = false) (hN : ∀ base, 1 ≤ (N base).length)
    (hB : ∀ (s : RJ) (X : List UInt8) (base : Nat), s.deep = deep → s.err = 0 → s.nodes.length = base + 1 → base < 256 → At s (c :: (T ++ X)) → stopR X →
      (base + (N base).length ≤ 256 → ∃ M, N base = (bodyS val c s).1 :: M ∧ Aft s (bodyS val c s).2 M X) ∧ (256 < base + (N base).length → (bodyS val c s).2.err = 14)) : Reads (valueS val) deep (c :: T) N := by
  intro s ws X hd he hl h hw hX
  obtain ⟨h1, h2⟩ := here_at he h hw hc
  have hn : (hereS s).2.nodes = s.nodes := by rw [h2.nodes, List.append_nil]
  by_cases h256 : s.nodes.length = 256
  · have hr : roomS s = { (hereS s).2 with err := 14 } := by
      unfold roomS
      rw [if_pos ⟨h2.err, by rw [hn]; omega⟩]
      unfold RJ.fail
      rw [if_pos h2.err]
    have hv : valueS val s = (0, { (hereS s).2 with err := 14 }) := by
      unfold valueS
      rw [hr, if_pos (by simp)]
    have := hN s.nodes.length
    exact ⟨fun hm => by omega, fun _ => by rw [hv]⟩
  have hr : roomS s = (hereS s).2 := by
    unfold roomS
    rw [if_neg (by rw [hn]; omega)]
  have hv : valueS val s = ((hereS s).2.nodes.length, { (bodyS val c { (hereS s).2 with nodes := (hereS s).2.nodes ++ [zeroJ] }).2 with nodes := (bodyS val c { (hereS s).2 with nodes := (hereS s).2.nodes ++ [zeroJ] }).2.nodes.set (hereS s).2.nodes.length (bodyS val c { (hereS s).2 with nodes := (hereS s).2.nodes ++ [zeroJ] }).1 }) := by
    unfold valueS
    rw [hr, if_neg (by rw [h2.err]; simp), h1]
  obtain ⟨q1, q2⟩ := hB { (hereS s).2 with nodes := (hereS s).2.nodes ++ [zeroJ] } X s.nodes.length (h2.deep.trans hd) h2.err (by simp [hn]) (by omega) h2.at_ hX
  refine ⟨fun hm => ?_, fun hm => by rw [hv]; exact q2 hm⟩
  obtain ⟨M, e1, e2⟩ := q1 hm
  rw [hv]
  refine ⟨by rw [hn], e2.b.trans h2.b, e2.deep.trans h2.deep, e2.err, ?_, e2.at_⟩
  show (bodyS val c { (hereS s).2 with nodes := (hereS s).2.nodes ++ [zeroJ] }).2.nodes.set (hereS s).2.nodes.length _ = _
  rw [e2.nodes, e1, hn, List.append_assoc, List.set_append_right _ _ (Nat.le_refl _), Nat.sub_self]
  rfl
theorem word_reads {s : RJ} {w X : List UInt8} {k : Nat} (hk : (w = trueB ∧ k = 5) ∨ (w = falseB ∧ k = 6) ∨ (w = nullB ∧ k = 7)) (he : s.err = 0) (h : At s (w ++ X)) : (wordS s).1 = ⟨k, [], [], []⟩ ∧ Aft s (wordS s).2 [] X := by
  have hm := h.move
  have h1 := h.1
  rcases hk with ⟨rfl, rfl⟩ | ⟨rfl, rfl⟩ | ⟨rfl, rfl⟩
  · unfold wordS
    rw [h1, if_pos (by rfl)]
    exact ⟨rfl, rfl, rfl, he, (List.append_nil _).symm, hm⟩
  · unfold wordS
    rw [h1, if_neg (by simp [trueB, falseB, nullB]), if_pos (by rfl)]
    exact ⟨rfl, rfl, rfl, he, (List.append_nil _).symm, hm⟩
  · unfold wordS
    rw [h1, if_neg (by simp [trueB, falseB, nullB]), if_neg (by simp [trueB, falseB, nullB]), if_pos (by rfl)]
    exact ⟨rfl, rfl, rfl, he, (List.append_nil _).symm, hm⟩
end Go.Proofs.YtfemncfhiihckaaDoor
open Go Go.VS
namespace Go.Proofs.YtfemncfhiihckaaDoor
set_option linter.unusedVariables false
set_option linter.unusedSimpArgs false
set_option maxRecDepth 20000
set_option maxHeartbeats 4000000
theorem open_ok {s : RJ} (h : s.deep + 1 ≤ 8) : openS s = { s with deep := s.deep + 1, at_ := s.at_ + 1 } := by
  unfold openS
  rw [if_neg (by omega)]
/-- A row of values within brackets. -/
def groupN (obj : Bool) (its : List It) (base : Nat) : List JN :=
  (bif obj then ⟨1, [], (List.range its.length).map nmI, (nodesI (base + 1) its).2⟩ else ⟨2, [], [], (nodesI (base + 1) its).2⟩) :: (nodesI (base + 1) its).1
/-- What a value's text begins with. -/
def HeadOk (T : List UInt8) : Prop := ∃ c T', T = c :: T' ∧ blank c = false ∧ c ≠ 93
theorem group_reads {val : RJ → Nat × RJ} {deep : Nat} {gap : List UInt8} (hg : AllB gap) (hd8 : deep + 1 ≤ 8) (obj : Bool) (its : List It) (h20 : its.length < 18) (hH : ∀ x ∈ its, HeadOk x.1) (hR : ∀ x ∈ its, Reads val (deep + 1) x.1 x.2) :
    Reads (valueS val) deep (opT obj :: bodyI obj gap its) (groupN obj its) := by
  refine value_reads (by cases obj <;> decide) (fun base => by simp [groupN]) fun s X base hd he hl hb h hX => ?_
  have ho := open_ok (s := s) (by omega)
  have hm : At (openS s) (bodyI obj gap its ++ X) := by rw [ho]; exact At.move (p := [opT obj]) h
  have hod : (openS s).deep = deep + 1 := by rw [ho]; show s.deep + 1 = deep + 1; rw [hd]
  have hoe : (openS s).err = 0 := by rw [ho]; exact he
  have hon : (openS s).nodes = s.nodes := by rw [ho]
  have hob : (openS s).b = s.b := by rw [ho]
  have hshut : ∀ (t : RJ) (M : List JN), Aft (openS s) t M X → Aft s (shutS t) M X := fun t M k => ⟨k.b.trans hob, by show t.deep - 1 = s.deep; rw [k.deep, hod, hd]; rfl, k.err, by show t.nodes = _; rw [k.nodes, hon], k.at_⟩
  have hsb : blank (shT obj) = false := by cases obj <;> decide
  cases its with
  | nil =>
    have hm' : At (openS s) (gap ++ shT obj :: X) := by simpa [bodyI] using hm
    obtain ⟨y1, y2⟩ := sign_yes hoe hm' hg hsb
    have hbd : bodyS val (opT obj) s = (bif obj then ⟨1, [], [], []⟩ else ⟨2, [], [], []⟩, shutS (signS (openS s) (shT obj)).2) := by
      cases obj
      · show bodyS val 91 s = _
        unfold bodyS arrayS; rw [if_neg (by decide), if_pos rfl]; exact if_pos y1
      · show bodyS val 123 s = _
        unfold bodyS objectS; rw [if_pos rfl]; exact if_pos y1
    rw [hbd]
    refine ⟨fun _ => ⟨[], by cases obj <;> simp [groupN, nodesI], hshut _ _ y2⟩, fun hm => ?_⟩
    simp [groupN, nodesI] at hm; omega
  | cons it its =>
    obtain ⟨c, T', hT, hc1, hc2⟩ := hH it (by simp)
    have hdist : ∀ base : Nat, (groupN obj (it :: its) base).length = 1 + (nodesI (base + 1) (it :: its)).1.length := fun base => by simp only [groupN, List.length_cons]; omega
    cases obj with
    | false =>
      have h1 : At (openS s) (gap ++ c :: (T' ++ (tailI false gap 1 its ++ X))) := by
        have := hm
        rw [bodyI, hT] at this
        simpa [preI, List.append_assoc] using this
      obtain ⟨y1, y2⟩ := sign_no (c := 93) hoe h1 hg hc1 hc2
      have hln : (signS (openS s) 93).2.nodes = s.nodes := by rw [y2.nodes, List.append_nil, hon]
      have h2 : At (signS (openS s) 93).2 ([] ++ (it.1 ++ (tailI false gap 1 its ++ X))) := by rw [hT]; exact y2.at_
      obtain ⟨r1, r2⟩ := arr_reads hg its it 300 1 (signS (openS s) 93).2 [] [] X (fun _ hx => by cases hx) hR (by simp only [List.length_cons] at h20; omega) (y2.deep.trans hod) y2.err (by rw [hln]; omega) h2
      rw [hln, hl] at r1 r2
      have hbd : bodyS val (opT false) s = (⟨2, [], [], (arrS val 300 (signS (openS s) 93).2 []).1⟩, shutS (arrS val 300 (signS (openS s) 93).2 []).2) := by
        show bodyS val 91 s = _
        unfold bodyS arrayS; rw [if_neg (by decide), if_pos rfl, if_neg (by rw [y1]; decide)]
      rw [hbd, hdist]
      refine ⟨fun hm => ?_, fun hm => r2 (by omega)⟩
      obtain ⟨w1, w2⟩ := r1 (by omega)
      refine ⟨_, ?_, hshut _ _ (y2.trans0 w2)⟩
      rw [w1]; rfl
    | true =>
      have h1 : At (openS s) (gap ++ 34 :: (UInt8.ofNat (97 + 0) :: 34 :: (gap ++ 58 :: (gap ++ (it.1 ++ (tailI true gap 1 its ++ X)))))) := by
        have := hm
        rw [bodyI] at this
        simpa [preI, List.append_assoc] using this
      obtain ⟨y1, y2⟩ := sign_no (c := 125) hoe h1 hg (by decide) (by decide)
      have hln : (signS (openS s) 125).2.nodes = s.nodes := by rw [y2.nodes, List.append_nil, hon]
      have h2 : At (signS (openS s) 125).2 ([] ++ (preI true gap 0 ++ (it.1 ++ (tailI true gap (0 + 1) its ++ X)))) := by
        have := y2.at_
        simpa [preI, List.append_assoc] using this
      obtain ⟨r1, r2⟩ := obj_reads hg its it 300 0 (signS (openS s) 125).2 [] [] X (fun _ hx => by cases hx) hR (by simp only [List.length_cons] at h20; omega) (by simp only [List.length_cons] at h20; omega) (y2.deep.trans hod) y2.err (by rw [hln]; omega) h2
      rw [hln, hl] at r1 r2
      have hbd : bodyS val (opT true) s = (⟨1, [], (objS val 300 (signS (openS s) 125).2 [] []).1.1, (objS val 300 (signS (openS s) 125).2 [] []).1.2⟩, shutS (objS val 300 (signS (openS s) 125).2 [] []).2) := by
        show bodyS val 123 s = _
        unfold bodyS objectS; rw [if_pos rfl, if_neg (by rw [y1]; decide)]
      rw [hbd, hdist]
      refine ⟨fun hm => ?_, fun hm => r2 (by omega)⟩
      obtain ⟨w1, w2⟩ := r1 (by omega)
      refine ⟨_, ?_, hshut _ _ (y2.trans0 w2)⟩
      have w1' : (objS val 300 (signS (openS s) 125).2 [] []).1 = _ := w1
      rw [w1', show 0 + 1 + its.length = (it :: its).length by simp only [List.length_cons]; omega]
      rfl
end Go.Proofs.YtfemncfhiihckaaDoor
