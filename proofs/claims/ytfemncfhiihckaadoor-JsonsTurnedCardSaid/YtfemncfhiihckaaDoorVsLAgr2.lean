/- The reader and the document's reader agree on groups: plain law. -/
import Derived.Test.YtfemncfhiihckaaDoorVsLAgr
open Go Go.VS
namespace Go.Proofs.YtfemncfhiihckaaDoor
set_option linter.unusedVariables false
set_option linter.unusedSimpArgs false
set_option maxRecDepth 20000
set_option maxHeartbeats 4000000
def AgrV (p q : Nat × RJ) : Prop := p.2.err = q.2.err ∧ (p.2.err = 0 → p = q)
theorem arrS_err (val : RJ → Nat × RJ) (n : Nat) (s : RJ) (ks : List Nat) (h : s.err ≠ 0) : arrS val n s ks = (ks, s) := by
  cases n with
  | zero => rfl
  | succ n => unfold arrS; rw [if_pos h]
theorem objS_err (val : RJ → Nat × RJ) (n : Nat) (s : RJ) (ns : List (List UInt8)) (ks : List Nat) (h : s.err ≠ 0) : objS val n s ns ks = ((ns, ks), s) := by
  cases n with
  | zero => rfl
  | succ n => unfold objS; rw [if_pos h]
theorem grpL_err (val : RJ → Nat × RJ) (obj : Bool) (shut : UInt8) (n : Nat) (s : RJ) (ns : List (List UInt8)) (ks : List Nat) (h : s.err ≠ 0) : grpL val obj shut n s ns ks = ((ns, ks), s) := by
  cases n with
  | zero => rfl
  | succ n => unfold grpL; rw [if_pos h]
theorem ok_blank (s : RJ) (h : OkJ s) : OkJ (blankS s) := (blank_keep s h).ok
theorem ok_next {s : RJ} {c : UInt8} (h : OkJ s) (hc : isC s c = true) : OkJ { s with at_ := s.at_ + 1 } := (at_keep s h (isC_lt hc).1).ok
theorem isC_other {s : RJ} {c d : UInt8} (h : isC s c = true) (hd : c ≠ d) : isC s d = false := by
  rw [← Bool.not_eq_true]
  intro h'
  exact hd ((isC_lt h).2.symm.trans (isC_lt h').2)
theorem arr_agr {vs vr : RJ → Nat × RJ} (hV : ∀ s, OkJ s → s.err = 0 → s.deep ≤ 8 → AgrV (vs s) (vr s)) (K : KeepV vs) : ∀ (n : Nat) (s : RJ) (ks : List Nat), OkJ s → s.deep ≤ 8 →
    (arrS vs n s ks).2.err = (grpL vr false 93 n s [] ks).2.err ∧ ((arrS vs n s ks).2.err = 0 → grpL vr false 93 n s [] ks = (([], (arrS vs n s ks).1), (arrS vs n s ks).2))
  | 0, s, ks, h, hd => ⟨rfl, fun _ => rfl⟩
  | n + 1, s, ks, h, hd => by
    by_cases he : s.err ≠ 0
    · rw [arrS_err _ _ _ _ he, grpL_err _ _ _ _ _ _ _ he]
      exact ⟨rfl, fun e => (he e).elim⟩
    have he : s.err = 0 := Classical.not_not.1 he
    obtain ⟨a1, a2⟩ := hV s h he hd
    have kok := K.ok s h
    have kd := K.deep s h
    unfold arrS grpL
    simp only [he, ne_eq, not_true_eq_false, if_false, Bool.false_eq_true]
    generalize vs s = V at *
    generalize vr s = V' at *
    by_cases hve : V.2.err ≠ 0
    · have hve' : V'.2.err ≠ 0 := by rw [← a1]; exact hve
      rw [if_pos hve', sign_err _ _ hve]
      simp only [Bool.false_eq_true, if_false]
      rw [sign_err _ _ hve]
      simp only [Bool.false_eq_true, if_false]
      rw [fail_err _ _ hve, arrS_err _ _ _ _ hve]
      exact ⟨a1, fun e => (hve e).elim⟩
    have hve : V.2.err = 0 := Classical.not_not.1 hve
    have hVV := a2 hve
    subst hVV
    rw [if_neg (show ¬ ¬ V.2.err = 0 from fun h => h hve), sign_blank _ hve 93 (by decide)]
    have kB := ok_blank _ kok
    have hBe : (blankS V.2).err = 0 := hve
    have hBd : (blankS V.2).deep ≤ 8 := by show V.2.deep ≤ 8; omega
    generalize hB : blankS V.2 = B at *
    have hBB : blankS B = B := by rw [← hB]; exact blank_blank _
    by_cases h93 : isC B 93 = true
    · rw [if_pos h93, if_pos h93]
      simp only [if_true]
      exact ⟨trivial, fun _ => trivial⟩
    rw [if_neg h93, if_neg h93]
    simp only [Bool.false_eq_true, if_false]
    rw [sign_blank _ hBe 44 (by decide), hBB, word_one]
    by_cases h44 : isC B 44 = true
    · rw [if_pos h44]
      simp only [if_true]
      exact arr_agr hV K n _ _ (ok_next kB h44) hBd
    · rw [if_neg h44]
      simp only [Bool.false_eq_true, if_false]
      exact arr_agr hV K n _ _ (fail_ok _ _ kB) (by rw [(fail_b B 11).2.1]; exact hBd)
/-- A member's name, and the sign behind it, as the reader goes on. -/
def memS (s : RJ) (ns : List (List UInt8)) : List UInt8 × RJ :=
  let t := textS (hereS s).2
  let s1 := if t.1 ∈ ns then t.2.fail 12 else t.2
  let c := signS s1 58
  (t.1, if c.1 = true then c.2 else c.2.fail 11)
theorem objS_mem (val : RJ → Nat × RJ) (n : Nat) (s : RJ) (ns : List (List UInt8)) (ks : List Nat) (he : s.err = 0) (h34 : (hereS s).1 = 34) :
    objS val (n + 1) s ns ks = if (signS (val (memS s ns).2).2 125).1 = true then ((ns ++ [(memS s ns).1], ks ++ [(val (memS s ns).2).1]), (signS (val (memS s ns).2).2 125).2)
      else objS val n (if (signS (signS (val (memS s ns).2).2 125).2 44).1 = true then (signS (signS (val (memS s ns).2).2 125).2 44).2 else (signS (signS (val (memS s ns).2).2 125).2 44).2.fail 11) (ns ++ [(memS s ns).1]) (ks ++ [(val (memS s ns).2).1]) := by
  show (if s.err ≠ 0 then _ else if (hereS s).1 ≠ 34 then _ else _) = _
  rw [if_neg (show ¬ s.err ≠ 0 from fun h => h he), if_neg (show ¬ (hereS s).1 ≠ 34 from fun h => h h34)]
  rfl
theorem mem_agr (s : RJ) (ns : List (List UInt8)) (h : OkJ s) (he : s.err = 0) (h34 : isC (blankS s) 34 = true) :
    ((memS s ns).2.err = 0 ∧ OkJ (memS s ns).2 ∧ (memS s ns).2.deep = s.deep ∧ nameS s ns = ((memS s ns).2, ns ++ [(memS s ns).1])) ∨ ((memS s ns).2.err ≠ 0 ∧ (nameS s ns).1.err = (memS s ns).2.err) := by
  have hb := here_blank s he
  have hBe : (blankS s).err = 0 := he
  have hBd : (blankS s).deep = s.deep := rfl
  have kB := ok_blank s h
  unfold memS nameS
  rw [hb, if_neg (show ¬ isC (blankS s) 34 = false by rw [h34]; decide)]
  have hlt := (isC_lt h34).1
  generalize blankS s = B at *
  have hta := tx_agr B.b (B.b.length + 1) (B.at_ + 1) [] (by omega)
  have kT := text_keepC B kB hlt
  have hC : textC B = (((txR B.b (B.b.length + 1) (B.at_ + 1) []).1, (txR B.b (B.b.length + 1) (B.at_ + 1) []).2.1), { B with at_ := (txR B.b (B.b.length + 1) (B.at_ + 1) []).2.2 }) := rfl
  have hS : textS B = ((txC B.b (B.b.length + 1) (B.at_ + 1) []).1, if (txC B.b (B.b.length + 1) (B.at_ + 1) []).2.1 = true then { B with at_ := (txC B.b (B.b.length + 1) (B.at_ + 1) []).2.2 } else ({ B with at_ := (txC B.b (B.b.length + 1) (B.at_ + 1) []).2.2 } : RJ).fail 11) := rfl
  rw [hC] at kT ⊢
  rw [hS]
  generalize txC B.b (B.b.length + 1) (B.at_ + 1) [] = C at *
  generalize txR B.b (B.b.length + 1) (B.at_ + 1) [] = T at *
  obtain ⟨c1, c2, c3⟩ := C
  obtain ⟨t1, t2, t3⟩ := T
  simp only at hta kT ⊢
  obtain ⟨hc2, hceq⟩ := hta
  subst hc2
  cases c2 with
  | false =>
    have hF11 : (RJ.fail { B with at_ := c3 } 11).err = 11 := fail_zero _ _ (show ({ B with at_ := c3 } : RJ).err = 0 from hBe)
    have hF : (RJ.fail { B with at_ := c3 } 11).err ≠ 0 := by rw [hF11]; decide
    have hG11 : (RJ.fail { B with at_ := t3 } 11).err = 11 := fail_zero _ _ (show ({ B with at_ := t3 } : RJ).err = 0 from hBe)
    have hS1 : (if c1 ∈ ns then (RJ.fail { B with at_ := c3 } 11).fail 12 else RJ.fail { B with at_ := c3 } 11) = RJ.fail { B with at_ := c3 } 11 := by rw [fail_err _ _ hF]; split <;> rfl
    right
    rw [if_neg (show ¬ false = true by decide), if_pos (show false = false from rfl), hS1, sign_err _ _ hF, if_neg (show ¬ false = true by decide), fail_err _ _ hF]
    exact ⟨hF, hG11.trans hF11.symm⟩
  | true =>
    have e := hceq rfl
    simp only [Prod.mk.injEq, true_and] at e
    obtain ⟨rfl, rfl⟩ := e
    have hTe : ({ B with at_ := c3 } : RJ).err = 0 := hBe
    have hTd : ({ B with at_ := c3 } : RJ).deep = s.deep := hBd
    have kT2 := kT.ok
    rw [if_pos (show true = true from rfl), if_neg (show ¬ (true = false) by decide)]
    generalize ({ B with at_ := c3 } : RJ) = T2 at *
    by_cases hm : c1 ∈ ns
    · right
      rw [if_pos hm]
      have hF : (T2.fail 12).err = 12 := fail_zero _ _ hTe
      have hF0 : (T2.fail 12).err ≠ 0 := by rw [hF]; decide
      rw [sign_err _ _ hF0, if_neg (show ¬ false = true by decide), fail_err _ _ hF0]
      have hB12 : (blankS (T2.fail 12)).err = 12 := hF
      have hB0 : (blankS (T2.fail 12)).err ≠ 0 := by rw [hB12]; decide
      refine ⟨hF0, ?_⟩
      show (if (wordC (blankS (T2.fail 12)) [58]).1 = true then (wordC (blankS (T2.fail 12)) [58]).2 else (wordC (blankS (T2.fail 12)) [58]).2.fail 11).err = _
      rw [hF]
      split
      · exact hB12
      · rw [fail_err _ _ (show (wordC (blankS (T2.fail 12)) [58]).2.err ≠ 0 from hB0)]; exact hB12
    rw [if_neg hm, sign_blank _ hTe 58 (by decide)]
    have kB2 := ok_blank _ kT2
    have hB2e : (blankS T2).err = 0 := hTe
    have hB2d : (blankS T2).deep = s.deep := hTd
    show _ ∨ (_ ∧ (if (wordC (blankS T2) [58]).1 = true then (wordC (blankS T2) [58]).2 else (wordC (blankS T2) [58]).2.fail 11).err = _)
    rw [word_one]
    generalize blankS T2 = B2 at *
    by_cases h58 : isC B2 58 = true
    · left
      rw [if_pos h58]
      exact ⟨hB2e, ok_next kB2 h58, hB2d, rfl⟩
    · right
      rw [if_neg h58]
      have hF : (B2.fail 11).err = 11 := fail_zero _ _ hB2e
      refine ⟨?_, rfl⟩
      show (B2.fail 11).err ≠ 0
      rw [hF]; decide
theorem obj_agr {vs vr : RJ → Nat × RJ} (hV : ∀ s, OkJ s → s.err = 0 → s.deep ≤ 8 → AgrV (vs s) (vr s)) (hE : ∀ s, s.err ≠ 0 → (vs s).2 = s) (K : KeepV vs) : ∀ (n : Nat) (s : RJ) (ns : List (List UInt8)) (ks : List Nat), OkJ s → s.deep ≤ 8 →
    (objS vs n s ns ks).2.err = (grpL vr true 125 n s ns ks).2.err ∧ ((objS vs n s ns ks).2.err = 0 → grpL vr true 125 n s ns ks = objS vs n s ns ks)
  | 0, s, ns, ks, h, hd => ⟨rfl, fun _ => rfl⟩
  | n + 1, s, ns, ks, h, hd => by
    by_cases he : s.err ≠ 0
    · rw [objS_err _ _ _ _ _ he, grpL_err _ _ _ _ _ _ _ he]
      exact ⟨rfl, fun e => (he e).elim⟩
    have he : s.err = 0 := Classical.not_not.1 he
    have hi := here_is s he 34 (by decide)
    have hBe : (blankS s).err = 0 := he
    have hg : grpL vr true 125 (n + 1) s ns ks = if (nameS s ns).1.err ≠ 0 then (((nameS s ns).2, ks), (nameS s ns).1)
        else if (vr (nameS s ns).1).2.err ≠ 0 then (((nameS s ns).2, ks ++ [(vr (nameS s ns).1).1]), (vr (nameS s ns).1).2)
        else if isC (blankS (vr (nameS s ns).1).2) 125 = true then (((nameS s ns).2, ks ++ [(vr (nameS s ns).1).1]), { blankS (vr (nameS s ns).1).2 with at_ := (blankS (vr (nameS s ns).1).2).at_ + 1 })
        else grpL vr true 125 n (if (wordC (blankS (vr (nameS s ns).1).2) [44]).1 = true then (wordC (blankS (vr (nameS s ns).1).2) [44]).2 else (wordC (blankS (vr (nameS s ns).1).2) [44]).2.fail 11) (nameS s ns).2 (ks ++ [(vr (nameS s ns).1).1]) := by
      show (if s.err ≠ 0 then _ else _) = _
      rw [if_neg (show ¬ s.err ≠ 0 from fun h => h he)]
      rfl
    by_cases h34 : isC (blankS s) 34 = true
    · rw [objS_mem vs n s ns ks he (hi.2 h34), hg]
      rcases mem_agr s ns h he h34 with ⟨m1, m2, md, m3⟩ | ⟨m1, m2⟩
      · rw [m3]
        generalize memS s ns = M at *
        obtain ⟨txt, N⟩ := M
        simp only at m1 m2 md ⊢
        obtain ⟨a1, a2⟩ := hV N m2 m1 (by omega)
        have kok := K.ok N m2
        have kd := K.deep N m2
        generalize vs N = V at *
        generalize vr N = V' at *
        rw [if_neg (show ¬ N.err ≠ 0 from fun h => h m1)]
        by_cases hve : V.2.err ≠ 0
        · have hve' : V'.2.err ≠ 0 := by rw [← a1]; exact hve
          rw [if_pos hve', sign_err _ _ hve, if_neg (show ¬ false = true by decide), sign_err _ _ hve, if_neg (show ¬ false = true by decide), fail_err _ _ hve, objS_err _ _ _ _ _ hve]
          exact ⟨a1, fun e => (hve e).elim⟩
        have hve : V.2.err = 0 := Classical.not_not.1 hve
        have hVV := a2 hve
        subst hVV
        rw [if_neg (show ¬ V.2.err ≠ 0 from fun h => h hve), sign_blank _ hve 125 (by decide)]
        have kB3 := ok_blank _ kok
        have hB3e : (blankS V.2).err = 0 := hve
        have hB3d : (blankS V.2).deep ≤ 8 := by show V.2.deep ≤ 8; omega
        have hBB : blankS (blankS V.2) = blankS V.2 := blank_blank _
        generalize blankS V.2 = B3 at *
        by_cases h125 : isC B3 125 = true
        · rw [if_pos h125, if_pos h125, if_pos (show true = true from rfl)]
          exact ⟨rfl, fun _ => rfl⟩
        rw [if_neg h125, if_neg h125, if_neg (show ¬ false = true by decide), sign_blank _ hB3e 44 (by decide), hBB, word_one]
        by_cases h44 : isC B3 44 = true
        · rw [if_pos h44, if_pos (show true = true from rfl)]
          exact obj_agr hV hE K n _ _ _ (ok_next kB3 h44) hB3d
        · rw [if_neg h44, if_neg (show ¬ false = true by decide)]
          exact obj_agr hV hE K n _ _ _ (fail_ok _ _ kB3) (by rw [(fail_b B3 11).2.1]; exact hB3d)
      · have m3 : (nameS s ns).1.err ≠ 0 := by rw [m2]; exact m1
        rw [if_pos m3, hE _ m1, sign_err _ _ m1, if_neg (show ¬ false = true by decide), sign_err _ _ m1, if_neg (show ¬ false = true by decide), fail_err _ _ m1, objS_err _ _ _ _ _ m1]
        exact ⟨m2.symm, fun e => (m1 e).elim⟩
    · have h34' : isC (blankS s) 34 = false := by simpa using h34
      have hF : ((blankS s).fail 11).err = 11 := fail_zero _ _ hBe
      have hn : nameS s ns = ((blankS s).fail 11, ns) := by unfold nameS; rw [if_pos h34']
      have ho : objS vs (n + 1) s ns ks = ((ns, ks), (hereS s).2.fail 11) := by
        show (if s.err ≠ 0 then _ else if (hereS s).1 ≠ 34 then _ else _) = _
        rw [if_neg (show ¬ s.err ≠ 0 from fun h => h he), if_pos (show (hereS s).1 ≠ 34 from fun e => h34 (hi.1 e))]
      rw [hg, ho, hn, here_blank s he, if_pos (show ((blankS s).fail 11).err ≠ 0 by rw [hF]; decide)]
      exact ⟨rfl, fun _ => rfl⟩
end Go.Proofs.YtfemncfhiihckaaDoor
