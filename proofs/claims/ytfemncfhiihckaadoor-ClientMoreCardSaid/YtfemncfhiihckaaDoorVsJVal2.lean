/- What the reader's values come to, and Parse. -/
import Derived.Test.YtfemncfhiihckaaDoorVsJObj
open Go Go.VS
namespace Go.Proofs.YtfemncfhiihckaaDoor
set_option linter.unusedVariables false
set_option linter.unusedSimpArgs false
set_option maxRecDepth 20000
set_option maxHeartbeats 4000000
def zeroJ : JN := ⟨0, [], [], []⟩
def bodyS (val : RJ → Nat × RJ) (c : UInt8) (s : RJ) : JN × RJ :=
  if c = 123 then objectS val s
  else if c = 91 then arrayS val s
  else if c = 34 then (⟨3, (textS s).1, [], []⟩, (textS s).2)
  else if c = 45 ∨ digit c = true then (⟨4, (numberS s).1, [], []⟩, (numberS s).2)
  else wordS s
/-- A reader that has room for one more. -/
def roomS (s : RJ) : RJ := if (hereS s).2.err = 0 ∧ 256 ≤ (hereS s).2.nodes.length then (hereS s).2.fail 14 else (hereS s).2
def valueS (val : RJ → Nat × RJ) (s : RJ) : Nat × RJ :=
  if (roomS s).err ≠ 0 then (0, roomS s)
  else ((roomS s).nodes.length,
    { (bodyS val (hereS s).1 { roomS s with nodes := (roomS s).nodes ++ [zeroJ] }).2 with
      nodes := (bodyS val (hereS s).1 { roomS s with nodes := (roomS s).nodes ++ [zeroJ] }).2.nodes.set (roomS s).nodes.length (bodyS val (hereS s).1 { roomS s with nodes := (roomS s).nodes ++ [zeroJ] }).1 })
/-- What a piece of a value leaves. -/
structure KeepB (s : RJ) (t : RJ) : Prop where
  b : t.b = s.b
  deep : t.deep = s.deep
  ok : OkJ t
  more : s.nodes.length ≤ t.nodes.length
theorem KeepB.trans {s t u : RJ} (h : KeepB s t) (h' : KeepB t u) : KeepB s u := ⟨h'.b.trans h.b, h'.deep.trans h.deep, h'.ok, Nat.le_trans h.more h'.more⟩
theorem keep_sign (s : RJ) (c : UInt8) (h : OkJ s) : KeepB s (signS s c).2 := by
  obtain ⟨q1, q2, q3, q4⟩ := signS_b s c
  exact ⟨q1, q2, signS_ok s c h, by rw [q3]; exact Nat.le_refl _⟩
theorem keep_fail (s : RJ) (e : Nat) (h : OkJ s) : KeepB s (s.fail e) := by
  obtain ⟨q1, q2, q3, q4, _⟩ := fail_b s e
  exact ⟨q1, q2, fail_ok s e h, by rw [q3]; exact Nat.le_refl _⟩
theorem keep_here (s : RJ) (h : OkJ s) : KeepB s (hereS s).2 := by
  obtain ⟨q1, q2, q3, q4⟩ := hereS_b s
  exact ⟨q1, q2, hereS_ok s h, by rw [q3]; exact Nat.le_refl _⟩
theorem keep_val {val : RJ → Nat × RJ} (K : KeepV val) (hm : ∀ s, OkJ s → s.nodes.length ≤ (val s).2.nodes.length) (s : RJ) (h : OkJ s) : KeepB s (val s).2 := ⟨K.b s h, K.deep s h, K.ok s h, hm s h⟩
theorem keep_arr {val : RJ → Nat × RJ} (K : KeepV val) (hm : ∀ s, OkJ s → s.nodes.length ≤ (val s).2.nodes.length) : ∀ (n : Nat) (s : RJ) (ks : List Nat), OkJ s → KeepB s (arrS val n s ks).2
  | 0, s, ks, h => ⟨rfl, rfl, h, Nat.le_refl _⟩
  | n + 1, s, ks, h => by
    unfold arrS
    split
    · exact ⟨rfl, rfl, h, Nat.le_refl _⟩
    have k1 := keep_val K hm s h
    have k2 := k1.trans (keep_sign _ 93 k1.ok)
    split
    · exact k2
    have k3 := k2.trans (keep_sign _ 44 k2.ok)
    split
    · exact k3.trans (keep_arr K hm n _ _ k3.ok)
    · have k4 := k3.trans (keep_fail _ 11 k3.ok)
      exact k4.trans (keep_arr K hm n _ _ k4.ok)
theorem keep_open (s : RJ) (h : OkJ s) (hat : s.at_ < s.b.length) : (openS s).b = s.b ∧ (openS s).deep = s.deep + 1 ∧ OkJ (openS s) ∧ (openS s).nodes = s.nodes := by
  obtain ⟨p1, p2, p3, p4, p5⟩ := openS_b s
  exact ⟨p1, p2, ⟨by rw [p4, p1]; omega, by rw [p1]; exact h.len, by rw [p3]; exact h.nod⟩, p3⟩
theorem keep_shut {s t : RJ} (hd : t.deep = s.deep + 1) (hb : t.b = s.b) (hm : s.nodes.length ≤ t.nodes.length) (h : OkJ t) : KeepB s (shutS t) :=
  ⟨hb, by show t.deep - 1 = s.deep; omega, ⟨h.at_, h.len, h.nod⟩, hm⟩
theorem keep_array {val : RJ → Nat × RJ} (K : KeepV val) (hm : ∀ s, OkJ s → s.nodes.length ≤ (val s).2.nodes.length) (s : RJ) (h : OkJ s) (hat : s.at_ < s.b.length) : KeepB s (arrayS val s).2 := by
  obtain ⟨o1, o2, o3, o4⟩ := keep_open s h hat
  have k1 := keep_sign (openS s) 93 o3
  unfold arrayS
  split
  · exact keep_shut (k1.deep.trans o2) (k1.b.trans o1) (by have := k1.more; rw [o4] at this; exact this) k1.ok
  · have k2 := k1.trans (keep_arr K hm 300 _ [] k1.ok)
    exact keep_shut (k2.deep.trans o2) (k2.b.trans o1) (by have := k2.more; rw [o4] at this; exact this) k2.ok
theorem keep_text (s : RJ) (h : OkJ s) (hat : s.at_ < s.b.length) : KeepB s (textS s).2 := by
  obtain ⟨q1, q2, q3⟩ := textS_b s
  exact ⟨q1, q2, textS_ok s h hat, by rw [q3]; exact Nat.le_refl _⟩
theorem keep_obj {val : RJ → Nat × RJ} (K : KeepV val) (hm : ∀ s, OkJ s → s.nodes.length ≤ (val s).2.nodes.length) : ∀ (n : Nat) (s : RJ) (ns : List (List UInt8)) (ks : List Nat), OkJ s → KeepB s (objS val n s ns ks).2
  | 0, s, ns, ks, h => ⟨rfl, rfl, h, Nat.le_refl _⟩
  | n + 1, s, ns, ks, h => by
    unfold objS
    split
    · exact ⟨rfl, rfl, h, Nat.le_refl _⟩
    rename_i he
    have he : s.err = 0 := Classical.not_not.1 he
    have k0 := keep_here s h
    split
    · exact k0.trans (keep_fail _ 11 k0.ok)
    rename_i h34
    have h34 : (hereS s).1 = 34 := Classical.not_not.1 h34
    have hat := (hereS_at s he 34 h34 (by decide)).1
    have k1 := k0.trans (keep_text (hereS s).2 k0.ok (by rw [k0.b]; exact hat))
    simp only
    have k2 : KeepB s (if (textS (hereS s).2).1 ∈ ns then (textS (hereS s).2).2.fail 12 else (textS (hereS s).2).2) := by
      split
      · exact k1.trans (keep_fail _ 12 k1.ok)
      · exact k1
    generalize (if (textS (hereS s).2).1 ∈ ns then (textS (hereS s).2).2.fail 12 else (textS (hereS s).2).2) = S1 at *
    have k3 := k2.trans (keep_sign _ 58 k2.ok)
    have k4 : KeepB s (if (signS S1 58).1 = true then (signS S1 58).2 else (signS S1 58).2.fail 11) := by
      split
      · exact k3
      · exact k3.trans (keep_fail _ 11 k3.ok)
    generalize (if (signS S1 58).1 = true then (signS S1 58).2 else (signS S1 58).2.fail 11) = S2 at *
    have k5 := k4.trans (keep_val K hm S2 k4.ok)
    have k6 := k5.trans (keep_sign _ 125 k5.ok)
    split
    · exact k6
    have k7 := k6.trans (keep_sign _ 44 k6.ok)
    have k8 : KeepB s (if (signS (signS (val S2).2 125).2 44).1 = true then (signS (signS (val S2).2 125).2 44).2 else (signS (signS (val S2).2 125).2 44).2.fail 11) := by
      split
      · exact k7
      · exact k7.trans (keep_fail _ 11 k7.ok)
    exact k8.trans (keep_obj K hm n _ _ _ k8.ok)
theorem keep_object {val : RJ → Nat × RJ} (K : KeepV val) (hm : ∀ s, OkJ s → s.nodes.length ≤ (val s).2.nodes.length) (s : RJ) (h : OkJ s) (hat : s.at_ < s.b.length) : KeepB s (objectS val s).2 := by
  obtain ⟨o1, o2, o3, o4⟩ := keep_open s h hat
  have k1 := keep_sign (openS s) 125 o3
  unfold objectS
  split
  · exact keep_shut (k1.deep.trans o2) (k1.b.trans o1) (by have := k1.more; rw [o4] at this; exact this) k1.ok
  · have k2 := k1.trans (keep_obj K hm 300 _ [] [] k1.ok)
    exact keep_shut (k2.deep.trans o2) (k2.b.trans o1) (by have := k2.more; rw [o4] at this; exact this) k2.ok
theorem keep_at (s : RJ) (i : Nat) (hi : i ≤ s.b.length) (h : OkJ s) : KeepB s { s with at_ := i } := ⟨rfl, rfl, ⟨hi, h.len, h.nod⟩, Nat.le_refl _⟩
theorem keep_number (s : RJ) (h : OkJ s) : KeepB s (numberS s).2 := by
  have hp := (numP_le s.b s.at_ h.at_).2
  have k := keep_at s _ hp h
  unfold numberS
  simp only
  split
  · exact k
  · exact k.trans (keep_fail _ 11 k.ok)
theorem keep_word (s : RJ) (h : OkJ s) : KeepB s (wordS s).2 := by
  have hl : ∀ (k : Nat) (w : List UInt8), w.length = k → (s.b.drop s.at_).take k = w → s.at_ + k ≤ s.b.length := fun k w hw e => by
    have := congrArg List.length e
    rw [List.length_take, List.length_drop, hw] at this
    have := h.at_
    omega
  unfold wordS
  split
  · rename_i e; exact keep_at s _ (hl 4 _ rfl e) h
  split
  · rename_i e; exact keep_at s _ (hl 5 _ rfl e) h
  split
  · rename_i e; exact keep_at s _ (hl 4 _ rfl e) h
  · exact keep_fail _ 11 h
theorem keep_body {val : RJ → Nat × RJ} (K : KeepV val) (hm : ∀ s, OkJ s → s.nodes.length ≤ (val s).2.nodes.length) (c : UInt8) (s : RJ) (h : OkJ s) (hc : c ≠ 0 → s.at_ < s.b.length) : KeepB s (bodyS val c s).2 := by
  unfold bodyS
  split
  · rename_i e; exact keep_object K hm s h (hc (by rw [e]; decide))
  split
  · rename_i e; exact keep_array K hm s h (hc (by rw [e]; decide))
  split
  · rename_i e; exact keep_text s h (hc (by rw [e]; decide))
  split
  · exact keep_number s h
  · exact keep_word s h
theorem room_keep (s : RJ) (h : OkJ s) : KeepB s (roomS s) := by
  unfold roomS
  have k0 := keep_here s h
  split
  · exact k0.trans (keep_fail _ 14 k0.ok)
  · exact k0
theorem room_ok (s : RJ) (h : OkJ s) (he : (roomS s).err = 0) : roomS s = (hereS s).2 ∧ s.err = 0 ∧ (roomS s).nodes.length < 256 := by
  obtain ⟨q1, q2, q3, q4⟩ := hereS_b s
  unfold roomS at he ⊢
  split
  · rename_i hc
    rw [if_pos hc] at he
    exact ((fail_b (hereS s).2 14).2.2.2.2 (by decide) he).elim
  · rename_i hc
    rw [if_neg hc] at he
    refine ⟨rfl, by rw [← q4]; exact he, ?_⟩
    simp only [not_and, Nat.not_le] at hc
    exact hc he
theorem here_c (s : RJ) (he : s.err = 0) (h0 : (hereS s).1 ≠ 0) : (hereS s).2.at_ < (hereS s).2.b.length ∧ (hereS s).2.b.getD (hereS s).2.at_ default = (hereS s).1 := by
  have := hereS_at s he (hereS s).1 rfl h0
  rw [(hereS_b s).1]
  exact this
theorem value_keep {val : RJ → Nat × RJ} (K : KeepV val) (hm : ∀ s, OkJ s → s.nodes.length ≤ (val s).2.nodes.length) (s : RJ) (h : OkJ s) :
    KeepB s (valueS val s).2 ∧ ((valueS val s).2.err = 0 → s.nodes.length + 1 ≤ (valueS val s).2.nodes.length) ∧ (valueS val s).1 ≤ 256 := by
  have kr := room_keep s h
  unfold valueS
  split
  · rename_i he
    exact ⟨kr, fun e => absurd e he, Nat.zero_le _⟩
  · rename_i he
    have he : (roomS s).err = 0 := Classical.not_not.1 he
    obtain ⟨r1, r2, r3⟩ := room_ok s h he
    have hok : OkJ { roomS s with nodes := (roomS s).nodes ++ [zeroJ] } := ⟨kr.ok.at_, kr.ok.len, by simp only [List.length_append, List.length_cons, List.length_nil]; omega⟩
    have kb := keep_body K hm (hereS s).1 { roomS s with nodes := (roomS s).nodes ++ [zeroJ] } hok (fun h0 => by simp only [r1]; exact (here_c s r2 h0).1)
    generalize bodyS val (hereS s).1 { roomS s with nodes := (roomS s).nodes ++ [zeroJ] } = B at *
    have hmore := kb.more
    simp only [List.length_append, List.length_cons, List.length_nil] at hmore
    have := kr.more
    refine ⟨⟨kb.b.trans kr.b, kb.deep.trans kr.deep, ⟨kb.ok.at_, kb.ok.len, by simp only [List.length_set]; exact kb.ok.nod⟩, by simp only [List.length_set]; omega⟩, fun _ => by simp only [List.length_set]; omega, by simp only; omega⟩
/-- A value, so deep at most. -/
def valS : Nat → RJ → Nat × RJ
  | 0, s => (0, s.fail 13)
  | n + 1, s => valueS (valS n) s
theorem valS_keep : ∀ n : Nat, KeepV (valS n) ∧ ∀ s, OkJ s → s.nodes.length ≤ (valS n s).2.nodes.length
  | 0 => by
    have k := fun s (h : OkJ s) => keep_fail s 13 h
    exact ⟨⟨fun s h => (k s h).b, fun s h => (k s h).deep, fun s h => (k s h).ok, fun s h he => ((fail_b s 13).2.2.2.2 (by decide) he).elim, fun s h => Nat.zero_le _⟩, fun s h => (k s h).more⟩
  | n + 1 => by
    obtain ⟨K, hm⟩ := valS_keep n
    have k := fun s (h : OkJ s) => value_keep K hm s h
    exact ⟨⟨fun s h => (k s h).1.b, fun s h => (k s h).1.deep, fun s h => (k s h).1.ok, fun s h => (k s h).2.1, fun s h => (k s h).2.2⟩, fun s h => (k s h).1.more⟩
end Go.Proofs.YtfemncfhiihckaaDoor
