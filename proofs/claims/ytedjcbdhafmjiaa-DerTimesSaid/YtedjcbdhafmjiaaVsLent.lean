/- Part of a framework that states what Go functions answer on values as data; it holds for every program of the model. -/
import Derived.Test.YtedjcbdhafmjiaaVsLoop3
namespace Go.VS
set_option linter.unusedVariables false
set_option linter.unusedSimpArgs false
set_option linter.unusedSectionVars false
open Go
variable {P : Program}

/-! ### Boxes that are lent to a call -/

def posN : List Nat → Nat → Nat
  | [], _ => 0
  | k :: l, g => if g = k then 0 else posN l g + 1
def nodupN : List Nat → Bool
  | [] => true
  | g :: gs => !hasN gs g && nodupN gs

theorem hasN_mem {l : List Nat} {g : Nat} : hasN l g = true ↔ g ∈ l := by
  induction l with
  | nil => simp [hasN]
  | cons k l ih =>
    simp only [hasN, List.mem_cons]
    split
    · simp [*]
    · simp [*]
theorem nodupN_ok : ∀ {l : List Nat}, nodupN l = true → l.Nodup
  | [], _ => List.nodup_nil
  | g :: gs, h => by
    simp only [nodupN, Bool.and_eq_true, Bool.not_eq_true'] at h
    refine List.nodup_cons.2 ⟨fun hm => ?_, nodupN_ok h.2⟩
    rw [hasN_mem.2 hm] at h; cases h.1
theorem posN_get : ∀ {l : List Nat} {g : Nat}, hasN l g = true → l[posN l g]? = some g
  | [], g, h => by cases h
  | k :: l, g, h => by
    simp only [hasN, posN] at h ⊢
    split
    · rename_i e; subst e; rfl
    · rename_i e
      rw [if_neg e] at h
      simpa using posN_get h
theorem posN_at : ∀ {l : List Nat} {g i : Nat}, nodupN l = true → l[i]? = some g → posN l g = i
  | [], g, i, _, h => by simp at h
  | k :: l, g, 0, _, h => by simp at h; simp [posN, h]
  | k :: l, g, i + 1, hn, h => by
    simp only [nodupN, Bool.and_eq_true, Bool.not_eq_true'] at hn
    have h' : l[i]? = some g := by simpa using h
    have hm : hasN l g = true := hasN_mem.2 (List.mem_of_getElem? h')
    have hne : g ≠ k := fun e => by subst e; rw [hn.1] at hm; cases hm
    simp only [posN, if_neg hne, posN_at hn.2 h']
theorem posS_get : ∀ {l : List Stamp} {g : Stamp}, hasS l g = true → l[posS l g]? = some g
  | [], g, h => by cases h
  | k :: l, g, h => by
    simp only [hasS, posS] at h ⊢
    split
    · rename_i e; subst e; rfl
    · rename_i e
      rw [if_neg e] at h
      simpa using posS_get h

mutual
/-- Names by their places, in a space of their own; boxes by their places. -/
def rnB (k : Nat) (gs : List Stamp) (ids : List Nat) : AV → AV
  | .sl (some (g, eo)) nb sz l => .sl (some ((k, posS gs g), eo)) nb sz l
  | .ptr id off => .ptr (1000000 + posN ids id) off
  | .bsl id off len cap => .bsl (1000000 + posN ids id) off len cap
  | .agg cs => .agg (rnBL k gs ids cs)
  | .tup cs => .tup (rnBL k gs ids cs)
  | .fn f cs => .fn f (rnBL k gs ids cs)
  | v => v
def rnBL (k : Nat) (gs : List Stamp) (ids : List Nat) : List AV → List AV
  | [] => []
  | c :: cs => rnB k gs ids c :: rnBL k gs ids cs
end
mutual
/-- What may go along: no address of an element, and of boxes those of a list alone. -/
def okB (ids : List Nat) : AV → Bool
  | .eptr .. => false
  | .ptr id _ => hasN ids id
  | .bsl id .. => hasN ids id
  | .agg cs => okBL ids cs
  | .tup cs => okBL ids cs
  | .fn _ cs => okBL ids cs
  | _ => true
def okBL (ids : List Nat) : List AV → Bool
  | [] => true
  | c :: cs => okB ids c && okBL ids cs
end

mutual
theorem Rep.rnB {w : World} {C C2 : Ctx} {k : Nat} {gs : List Stamp} {ids : List Nat} (hsh : C2.Sh = C.Sh) (hbx : ∀ id b, hasN ids id = true → C.box id = some b → C2.box (1000000 + posN ids id) = some b) :
    ∀ (a : AV) (v : Value), okB ids a = true → (∀ g ∈ stA a, C2.own (k, posS gs g) = C.own g) → Rep w C a v → Rep w C2 (VS.rnB k gs ids a) v
  | .undef, _, _, _, _ => trivial
  | .int .., _, _, _, h => h
  | .bool .., _, _, _, h => h
  | .str .., _, _, _, h => h
  | .sl none nb sz l, v, _, _, h => by
    simp only [VS.rnB, Rep] at h ⊢
    rw [hsh]; exact h
  | .sl (some (g, eo)) nb sz l, v, _, hp, h => by
    have ho := hp g (by simp [stA])
    rcases h with h | h | ⟨h0, b, base, off, cap, vs, h1, h1', h2, h3, h4, h5, h6⟩
    · exact .inl (ho.trans h)
    · exact .inr (.inl h)
    · exact .inr (.inr ⟨h0, b, base, off, cap, vs, ho.trans h1, h1', h2, h3, h4, by rw [hsh]; exact h5, h6⟩)
  | .ptr id off, v, hk, _, h => by
    obtain ⟨b, h1, h2⟩ := h
    exact ⟨b, hbx id b hk h1, h2⟩
  | .nilp, _, _, _, h => h
  | .eptr .., _, hk, _, _ => by simp [okB] at hk
  | .agg cs, v, hk, hp, h => by
    obtain ⟨vs, h1, h2⟩ := h
    exact ⟨vs, h1, RepS.rnB hsh hbx cs vs hk hp h2⟩
  | .tup cs, v, hk, hp, h => by
    obtain ⟨vs, h1, h2⟩ := h
    exact ⟨vs, h1, RepSU.rnB hsh hbx cs vs hk hp h2⟩
  | .fn f cs, v, hk, hp, h => by
    obtain ⟨vs, h1, h2⟩ := h
    exact ⟨vs, h1, RepS.rnB hsh hbx cs vs hk hp h2⟩
  | .nilf, _, _, _, h => h
  | .bsl id off len cap, v, hk, _, h => by
    obtain ⟨b, h1, h2⟩ := h
    exact ⟨b, hbx id b hk h1, h2⟩
theorem RepS.rnB {w : World} {C C2 : Ctx} {k : Nat} {gs : List Stamp} {ids : List Nat} (hsh : C2.Sh = C.Sh) (hbx : ∀ id b, hasN ids id = true → C.box id = some b → C2.box (1000000 + posN ids id) = some b) :
    ∀ (l : List AV) (vs : List Value), okBL ids l = true → (∀ g ∈ stAL l, C2.own (k, posS gs g) = C.own g) → RepS w C l vs → RepS w C2 (rnBL k gs ids l) vs
  | [], _, _, _, h => h
  | c :: cs, _, hk, hp, h => by
    obtain ⟨v, r, h1, h0, h2, h3⟩ := h
    simp only [okBL, Bool.and_eq_true] at hk
    exact ⟨v, r, h1, h0, Rep.rnB hsh hbx c v hk.1 (fun p hp' => hp p (by simp [stAL, hp'])) h2, RepS.rnB hsh hbx cs r hk.2 (fun p hp' => hp p (by simp [stAL, hp'])) h3⟩
theorem RepSU.rnB {w : World} {C C2 : Ctx} {k : Nat} {gs : List Stamp} {ids : List Nat} (hsh : C2.Sh = C.Sh) (hbx : ∀ id b, hasN ids id = true → C.box id = some b → C2.box (1000000 + posN ids id) = some b) :
    ∀ (l : List AV) (vs : List Value), okBL ids l = true → (∀ g ∈ stAL l, C2.own (k, posS gs g) = C.own g) → RepSU w C l vs → RepSU w C2 (rnBL k gs ids l) vs
  | [], _, _, _, h => h
  | c :: cs, _, hk, hp, h => by
    obtain ⟨v, r, h1, h2, h3⟩ := h
    simp only [okBL, Bool.and_eq_true] at hk
    exact ⟨v, r, h1, Rep.rnB hsh hbx c v hk.1 (fun p hp' => hp p (by simp [stAL, hp'])) h2, RepSU.rnB hsh hbx cs r hk.2 (fun p hp' => hp p (by simp [stAL, hp'])) h3⟩
end

mutual
theorem frozR_ok {w : World} {C : Ctx} : ∀ (a : AV) (v : Value), (∀ g ∈ stampsOf a, C.own g ≠ .dead ∧ ∀ b base, C.own g = .live b base → C.Sh b) → Rep w C a v → Rep w C (froz a) v
  | .undef, _, _, _ => trivial
  | .int .., _, _, h => h
  | .bool .., _, _, h => h
  | .str .., _, _, h => h
  | .sl none nb sz l, v, _, h => h
  | .sl (some (g, eo)) nb sz l, v, hg, h => by
    obtain ⟨hd, hs⟩ := hg g (by simp [stampsOf])
    rcases h with h | h | ⟨h0, b, base, off, cap, vs, h1, _, h2, h3, h4, h5, _⟩
    · exact absurd h hd
    · exact .inl h
    · exact .inr ⟨h0, b, off, cap, vs, none, h2, h3, .inr ⟨rfl, hs b base h1, h4⟩, h5⟩
  | .ptr .., _, _, h => h
  | .nilp, _, _, h => h
  | .eptr .., _, _, h => h
  | .agg cs, v, hg, h => by
    obtain ⟨vs, h1, h2⟩ := h
    exact ⟨vs, h1, frozRL_ok cs vs hg h2⟩
  | .tup cs, _, _, h => h
  | .fn f cs, v, hg, h => by
    obtain ⟨vs, h1, h2⟩ := h
    exact ⟨vs, h1, frozRL_ok cs vs hg h2⟩
  | .nilf, _, _, h => h
  | .bsl .., _, _, h => h
theorem frozRL_ok {w : World} {C : Ctx} : ∀ (l : List AV) (vs : List Value), (∀ g ∈ stampsL l, C.own g ≠ .dead ∧ ∀ b base, C.own g = .live b base → C.Sh b) → RepS w C l vs → RepS w C (frozL l) vs
  | [], _, _, h => h
  | c :: cs, _, hg, h => by
    obtain ⟨v, r, h1, h0, h2, h3⟩ := h
    exact ⟨v, r, h1, h0, frozR_ok c v (fun g hg' => hg g (by simp [stampsL, hg'])) h2, frozRL_ok cs r (fun g hg' => hg g (by simp [stampsL, hg'])) h3⟩
end

mutual
/-- Back to the caller's names and boxes. -/
def backA (d : Nat) (bids : List Nat) : AV → AV
  | .sl (some (g, eo)) nb sz l => .sl (some ((1, nm d g.2), eo)) nb sz l
  | .ptr id off => .ptr (bids.getD (id - 1000000) 0) off
  | .bsl id off len cap => .bsl (bids.getD (id - 1000000) 0) off len cap
  | .agg cs => .agg (backL d bids cs)
  | .tup cs => .tup (backL d bids cs)
  | .fn f cs => .fn f (backL d bids cs)
  | v => v
def backL (d : Nat) (bids : List Nat) : List AV → List AV
  | [] => []
  | c :: cs => backA d bids c :: backL d bids cs
end
mutual
/-- What an answer may be: names of space 3, boxes of the contract. -/
def ansB (m : Nat) : AV → Bool
  | .sl (some (g, _)) _ _ _ => g.1 == 3
  | .ptr id _ => decide (1000000 ≤ id) && decide (id < 1000000 + m)
  | .bsl id .. => decide (1000000 ≤ id) && decide (id < 1000000 + m)
  | .eptr .. => false
  | .agg cs => ansBL m cs
  | .tup cs => ansBL m cs
  | .fn _ cs => ansBL m cs
  | _ => true
def ansBL (m : Nat) : List AV → Bool
  | [] => true
  | c :: cs => ansB m c && ansBL m cs
end

mutual
theorem Rep.back {w : World} {C C2 : Ctx} {d : Nat} {bids : List Nat} {m : Nat} (hsh : C2.Sh = C.Sh) (hd : ∀ g, C.own g ≠ .dead) (hbx : ∀ id b, 1000000 ≤ id → id < 1000000 + m → C.box id = some b → C2.box (bids.getD (id - 1000000) 0) = some b) :
    ∀ (a : AV) (v : Value), ansB m a = true → (∀ p ∈ posOf a, C2.own (1, nm d p) = C.own (3, p)) → Rep w C a v → Rep w C2 (backA d bids a) v
  | .undef, _, _, _, _ => trivial
  | .int .., _, _, _, h => h
  | .bool .., _, _, _, h => h
  | .str .., _, _, _, h => h
  | .sl none nb sz l, v, _, _, h => by
    simp only [backA, Rep] at h ⊢
    rw [hsh]; exact h
  | .sl (some (g, eo)) nb sz l, v, hk, hp, h => by
    have hg : g.1 = 3 := by simpa [ansB] using hk
    have hgg : g = (3, g.2) := by rw [← hg]
    have ho := hp g.2 (by simp [posOf])
    rw [← hgg] at ho
    rcases h with h | h | ⟨h0, b, base, off, cap, vs, h1, h1', h2, h3, h4, h5, h6⟩
    · exact absurd h (hd g)
    · exact .inr (.inl h)
    · exact .inr (.inr ⟨h0, b, base, off, cap, vs, ho.trans h1, h1', h2, h3, h4, by rw [hsh]; exact h5, h6⟩)
  | .ptr id off, v, hk, _, h => by
    simp only [ansB, Bool.and_eq_true, decide_eq_true_eq] at hk
    obtain ⟨b, h1, h2⟩ := h
    exact ⟨b, hbx id b hk.1 hk.2 h1, h2⟩
  | .nilp, _, _, _, h => h
  | .eptr .., _, hk, _, _ => by simp [ansB] at hk
  | .agg cs, v, hk, hp, h => by
    obtain ⟨vs, h1, h2⟩ := h
    exact ⟨vs, h1, RepS.back hsh hd hbx cs vs hk hp h2⟩
  | .tup cs, v, hk, hp, h => by
    obtain ⟨vs, h1, h2⟩ := h
    exact ⟨vs, h1, RepSU.back hsh hd hbx cs vs hk hp h2⟩
  | .fn f cs, v, hk, hp, h => by
    obtain ⟨vs, h1, h2⟩ := h
    exact ⟨vs, h1, RepS.back hsh hd hbx cs vs hk hp h2⟩
  | .nilf, _, _, _, h => h
  | .bsl id off len cap, v, hk, _, h => by
    simp only [ansB, Bool.and_eq_true, decide_eq_true_eq] at hk
    obtain ⟨b, h1, h2⟩ := h
    exact ⟨b, hbx id b hk.1 hk.2 h1, h2⟩
theorem RepS.back {w : World} {C C2 : Ctx} {d : Nat} {bids : List Nat} {m : Nat} (hsh : C2.Sh = C.Sh) (hd : ∀ g, C.own g ≠ .dead) (hbx : ∀ id b, 1000000 ≤ id → id < 1000000 + m → C.box id = some b → C2.box (bids.getD (id - 1000000) 0) = some b) :
    ∀ (l : List AV) (vs : List Value), ansBL m l = true → (∀ p ∈ posL l, C2.own (1, nm d p) = C.own (3, p)) → RepS w C l vs → RepS w C2 (backL d bids l) vs
  | [], _, _, _, h => h
  | c :: cs, _, hk, hp, h => by
    obtain ⟨v, r, h1, h0, h2, h3⟩ := h
    simp only [ansBL, Bool.and_eq_true] at hk
    exact ⟨v, r, h1, h0, Rep.back hsh hd hbx c v hk.1 (fun p hp' => hp p (by simp [posL, hp'])) h2, RepS.back hsh hd hbx cs r hk.2 (fun p hp' => hp p (by simp [posL, hp'])) h3⟩
theorem RepSU.back {w : World} {C C2 : Ctx} {d : Nat} {bids : List Nat} {m : Nat} (hsh : C2.Sh = C.Sh) (hd : ∀ g, C.own g ≠ .dead) (hbx : ∀ id b, 1000000 ≤ id → id < 1000000 + m → C.box id = some b → C2.box (bids.getD (id - 1000000) 0) = some b) :
    ∀ (l : List AV) (vs : List Value), ansBL m l = true → (∀ p ∈ posL l, C2.own (1, nm d p) = C.own (3, p)) → RepSU w C l vs → RepSU w C2 (backL d bids l) vs
  | [], _, _, _, h => h
  | c :: cs, _, hk, hp, h => by
    obtain ⟨v, r, h1, h2, h3⟩ := h
    simp only [ansBL, Bool.and_eq_true] at hk
    exact ⟨v, r, h1, Rep.back hsh hd hbx c v hk.1 (fun p hp' => hp p (by simp [posL, hp'])) h2, RepSU.back hsh hd hbx cs r hk.2 (fun p hp' => hp p (by simp [posL, hp'])) h3⟩
end

/-! ### Contracts with boxes -/

/-- A call's beginning, with boxes of the caller's, and what lies behind the names in them. -/
def Ent.lent (w : World) (C : Ctx) (own0 : Nat → Prop) (n : Nat) (hb : ∀ id b, C.box id = some b → 1000000 ≤ id) (ht : tblOk w C.Sh) (hs : ∀ b, C.Sh b → b < w.heap.size ∧ ¬ own0 b) : Ent := { w0 := w, Sh0 := C.Sh, own0 := own0, n := n, inB := C.box, inBig := hb, tab := ht, sh0 := hs }

/-- A function, called with boxes and with what is shared, answers that and leaves that in the boxes; boxes that are new stand behind them. -/
def CallsB (P : Program) (f : FuncId) (args : List AV) (bs : List (List AV)) (r : AV) (bs' : List (List AV)) : Prop :=
  ∀ (w : World) (C : Ctx) (own0 : Nat → Prop) (hb : ∀ id b, C.box id = some b → 1000000 ≤ id) (ht : tblOk w C.Sh) (hs : ∀ b, C.Sh b → b < w.heap.size ∧ ¬ own0 b) (vals : List Value), MemOk (Ent.lent w C own0 0 hb ht hs) (fun _ => false) C w → (∀ g, C.own g ≠ .none → g.1 = 4) → (∀ g, C.own g ≠ .dead) →
    (∀ id b, C.box id = some b → id < 1000000 + bs.length) → args.length = vals.length → (∀ (i : Nat) (a : AV) (v : Value), args[i]? = some a → vals[i]? = some v → Rep w C a v) →
    (∀ (i : Nat) (cs : List AV), bs[i]? = some cs → BoxAt w C (1000000 + i) cs) →
    Calls P f vals.toArray w fun e w' => ∃ v C', e = .returned v ∧ Rep w' C' r v ∧ MemOk (Ent.lent w C own0 0 hb ht hs) (fun _ => false) C' w' ∧ (∀ g, C'.own g ≠ .dead) ∧
      (∀ (i : Nat) (cs : List AV), bs'[i]? = some cs → BoxAt w' C' (1000000 + i) cs) ∧ (∀ id b, C'.box id = some b → 1000000 ≤ id ∧ id < 1000000 + bs'.length)

theorem MemOk.atN {w : World} {C0 : Ctx} {own0 : Nat → Prop} {n n' : Nat} {hb : ∀ id b, C0.box id = some b → 1000000 ≤ id} {ht : tblOk w C0.Sh} {hs : ∀ b, C0.Sh b → b < w.heap.size ∧ ¬ own0 b} {frz : Stamp → Bool} {C : Ctx} {w' : World} (m : MemOk (Ent.lent w C0 own0 n hb ht hs) frz C w') :
    MemOk (Ent.lent w C0 own0 n' hb ht hs) frz C w' :=
  { shIn := m.shIn, shFrom := m.shFrom, shOld := m.shOld, ownIn := m.ownIn, ownOne := m.ownOne, ownBox := m.ownBox, ownSh := m.ownSh, ownFrz := m.ownFrz, ownMine := m.ownMine,
    boxIn := m.boxIn, boxOne := m.boxOne, boxSh := m.boxSh, boxMine := m.boxMine, kept := m.kept, size := m.size, os := m.os, tape := m.tape, output := m.output }

/-- Where a call with boxes begins. -/
def entryB (args : List AV) (bs : List (List AV)) : St :=
  { s := fun t => (args[t]?).getD .undef, bx := fun id => if 1000000 ≤ id then bs[id - 1000000]? else none, cons := fun _ => false, frz := fun _ => false, made := fun _ => false, res := fun _ => none }

def stALL : List (List AV) → List Stamp
  | [] => []
  | c :: cs => stAL c ++ stALL cs
def okBLL (ids : List Nat) : List (List AV) → Bool
  | [] => true
  | c :: cs => okBL ids c && okBLL ids cs
def rnBLL (k : Nat) (gs : List Stamp) (ids : List Nat) : List (List AV) → List (List AV)
  | [] => []
  | c :: cs => rnBL k gs ids c :: rnBLL k gs ids cs
def boxesOf (st : St) : List Nat → Option (List (List AV))
  | [] => some []
  | i :: is => (st.bx i).bind fun c => (boxesOf st is).bind fun cs => some (c :: cs)
def bxIds : Nat → Nat → List Nat
  | _, 0 => []
  | k, n + 1 => k :: bxIds (k + 1) n

theorem boxesOf_get {st : St} : ∀ {ids : List Nat} {css : List (List AV)}, boxesOf st ids = some css → css.length = ids.length ∧ ∀ (i id : Nat), ids[i]? = some id → ∃ cs, css[i]? = some cs ∧ st.bx id = some cs
  | [], css, h => by cases h; exact ⟨rfl, fun i id h => by simp at h⟩
  | k :: ks, css, h => by
    simp only [boxesOf] at h
    obtain ⟨c, h1, h⟩ := Option.bind_eq_some_iff.1 h
    obtain ⟨cs, h2, h⟩ := Option.bind_eq_some_iff.1 h
    cases h
    obtain ⟨h3, h4⟩ := boxesOf_get h2
    refine ⟨by simp [h3], fun i id hi => ?_⟩
    cases i with
    | zero => simp at hi; subst hi; exact ⟨c, by simp, h1⟩
    | succ i => simpa using h4 i id (by simpa using hi)
theorem rnBLL_get {k : Nat} {gs : List Stamp} {ids : List Nat} : ∀ {css : List (List AV)} {i : Nat}, (rnBLL k gs ids css)[i]? = (css[i]?).map (rnBL k gs ids)
  | [], i => by simp [rnBLL]
  | c :: cs, 0 => by simp [rnBLL]
  | c :: cs, i + 1 => by simpa [rnBLL] using rnBLL_get (css := cs) (i := i)
theorem rnBLL_length {k : Nat} {gs : List Stamp} {ids : List Nat} : ∀ {css : List (List AV)}, (rnBLL k gs ids css).length = css.length
  | [] => rfl
  | c :: cs => by simp [rnBLL, rnBLL_length (css := cs)]
theorem okBLL_get {ids : List Nat} : ∀ {css : List (List AV)}, okBLL ids css = true → ∀ (i : Nat) (cs : List AV), css[i]? = some cs → okBL ids cs = true
  | [], _, i, cs, h => by simp at h
  | c :: r, h, i, cs, hi => by
    simp only [okBLL, Bool.and_eq_true] at h
    cases i with
    | zero => simp at hi; subst hi; exact h.1
    | succ i => exact okBLL_get h.2 i cs (by simpa using hi)
theorem stALL_get : ∀ {css : List (List AV)} (i : Nat) (cs : List AV), css[i]? = some cs → ∀ g ∈ stAL cs, g ∈ stALL css
  | [], i, cs, h => by simp at h
  | c :: r, i, cs, hi => by
    intro g hg
    cases i with
    | zero => simp at hi; subst hi; simp [stALL, hg]
    | succ i => simp [stALL, stALL_get i cs (by simpa using hi) g hg]
theorem bxIds_get : ∀ (n k i : Nat), (bxIds k n)[i]? = if i < n then some (k + i) else none
  | 0, k, i => by simp [bxIds]
  | n + 1, k, 0 => by simp [bxIds]
  | n + 1, k, i + 1 => by
    simp only [bxIds, List.getElem?_cons_succ, bxIds_get n (k + 1) i]
    by_cases h : i < n
    · rw [if_pos h, if_pos (by omega)]; congr 1; omega
    · rw [if_neg h, if_neg (by omega)]
theorem bxIds_length : ∀ (n k : Nat), (bxIds k n).length = n
  | 0, _ => rfl
  | n + 1, k => by simp [bxIds, bxIds_length n]

/-- What is answered, and left in the boxes. -/
def retSB (P : Program) (rs : List ResultVar) (nIn : Nat) (r : AV) (bs' : List (List AV)) : Exit → St → Prop :=
  fun e st => (e = .ret ∨ e = .normal) ∧ ∃ (esc : List Nat) (v : AV) (css : List (List AV)), retAV P st rs = some v ∧ boxesOf st (bxIds 1000000 nIn ++ esc) = some css ∧ nodupN (bxIds 1000000 nIn ++ esc) = true ∧
    okB (bxIds 1000000 nIn ++ esc) v = true ∧ okBLL (bxIds 1000000 nIn ++ esc) css = true ∧ (stALL css ++ stA v).Nodup ∧ (∀ g ∈ stALL css ++ stA v, st.cons g = false ∧ st.frz g = false) ∧
    rnB 3 (stALL css ++ stA v) (bxIds 1000000 nIn ++ esc) v = r ∧ rnBLL 3 (stALL css ++ stA v) (bxIds 1000000 nIn ++ esc) css = bs'

theorem CallsB.intro {f : FuncId} {fn : Func} {c : Code} {args : List AV} {bs bs' : List (List AV)} {r : AV} (hf : P.funcs[f]? = some fn) (hb : fn.body = some c) (hn : args.length ≤ fn.ntmps)
    (h : ∀ X : Ent, X.n = fn.ntmps → AWP P X c (retSB P fn.results.toList bs.length r bs') (entryB args bs)) : CallsB P f args bs r bs' := by
  intro w C own0 hbig htab hsh0 vals hm h4 hdead hbx hlen hargs hboxes
  refine calls_of_wp hf hb ?_
  let X := Ent.lent w C own0 fn.ntmps hbig htab hsh0
  have hc : Conc X (entryB args bs) C { tmps := vals.toArray ++ Array.replicate (fn.ntmps - vals.toArray.size) undef, defers := [] } w := by
    refine { n := ?_, slots := ?_, defers := rfl, boxes := ?_, boxSome := ?_, mem := hm.atN, cons := fun g => ⟨fun hh => (by cases hh), fun hh => absurd hh (hdead g)⟩,
             made := fun d hh => absurd (h4 _ hh) (by simp), tg := fun d hh => (by intro x; cases x), tgInj := fun d d' hh _ _ x => (by cases x), tgMade := fun d x => by cases x }
    · simp [X, Ent.lent]; omega
    · intro t
      simp only [entryB]
      cases ht : args[t]? with
      | none => trivial
      | some v =>
        simp only [Option.getD_some]
        have hlt := (List.getElem?_eq_some_iff.1 ht).1
        have hvl : t < vals.length := by omega
        have hv : vals[t]? = some vals[t] := List.getElem?_eq_getElem hvl
        have := hargs t v _ ht hv
        have e : (vals.toArray ++ Array.replicate (fn.ntmps - vals.toArray.size) undef).getD t undef = vals[t] := by
          rw [Array.getD_eq_getD_getElem?, Array.getElem?_append_left (by simpa using hvl)]
          simp [hvl]
        rw [e]
        exact this
    · intro id cs hid
      simp only [entryB] at hid
      split at hid
      · rename_i hge
        have := hboxes _ cs hid
        rwa [show 1000000 + (id - 1000000) = id by omega] at this
      · cases hid
    · intro id b hid
      have h1 := hbig id b hid
      have h2 := hbx id b hid
      simp only [entryB, if_pos h1]
      rw [List.getElem?_eq_getElem (by omega)]
      rfl
  refine wp_mono (h X rfl C _ w hc) ?_
  rintro e a' w' ⟨st', C', ⟨he, esc, v, css, q1, q2, q3, q4, q5, q6, q7, rfl, rfl⟩, hc'⟩
  have fin : a'.defers = [] ∧ ∃ u, (results fn a'.tmps).run P w' = .ok u w' ∧ ∃ v2 C2, Ending.returned u = .returned v2 ∧ Rep w' C2 (rnB 3 (stALL css ++ stA v) (bxIds 1000000 bs.length ++ esc) v) v2 ∧ MemOk (Ent.lent w C own0 0 hbig htab hsh0) (fun _ => false) C2 w' ∧ (∀ g, C2.own g ≠ .dead) ∧
      (∀ (i : Nat) (cs : List AV), (rnBLL 3 (stALL css ++ stA v) (bxIds 1000000 bs.length ++ esc) css)[i]? = some cs → BoxAt w' C2 (1000000 + i) cs) ∧
      (∀ id b, C2.box id = some b → 1000000 ≤ id ∧ id < 1000000 + (rnBLL 3 (stALL css ++ stA v) (bxIds 1000000 bs.length ++ esc) css).length) := by
    obtain ⟨u, hu, hr⟩ := retAV_ok hc' q1
    obtain ⟨hcl, hcg⟩ := boxesOf_get q2
    generalize hgs : stALL css ++ stA v = gs at *
    generalize hids : bxIds 1000000 bs.length ++ esc = ids at *
    let C2 : Ctx := ⟨C'.Sh, fun g => if g.1 = 3 then (match gs[g.2]? with | some g => C'.own g | none => .none) else .none, fun id => if 1000000 ≤ id then (ids[id - 1000000]?).bind C'.box else none⟩
    have hown : ∀ g ∈ gs, C2.own (3, posS gs g) = C'.own g := fun g hg => by
      have e : C2.own (3, posS gs g) = (if (3 : Nat) = 3 then (match gs[posS gs g]? with | some g => C'.own g | none => Own.none) else .none) := rfl
      rw [e, if_pos rfl, posS_get (hasS_mem.2 hg)]
    have hbxx : ∀ id b, hasN ids id = true → C'.box id = some b → C2.box (1000000 + posN ids id) = some b := fun id b hh hbb => by
      have e : C2.box (1000000 + posN ids id) = (if 1000000 ≤ 1000000 + posN ids id then (ids[1000000 + posN ids id - 1000000]?).bind C'.box else none) := rfl
      rw [e, if_pos (by omega), show 1000000 + posN ids id - 1000000 = posN ids id by omega, posN_get hh]
      exact hbb
    have hidB : ∀ id b, C2.box id = some b → 1000000 ≤ id ∧ ∃ k, ids[id - 1000000]? = some k ∧ C'.box k = some b := fun id b hh => by
      replace hh : (if 1000000 ≤ id then (ids[id - 1000000]?).bind C'.box else none) = some b := hh
      split at hh
      · obtain ⟨k, h1, h2⟩ := Option.bind_eq_some_iff.1 hh
        exact ⟨by assumption, k, h1, h2⟩
      · cases hh
    have lk : ∀ (g : Stamp) b base, C2.own g = .live b base → ∃ g0, g.1 = 3 ∧ gs[g.2]? = some g0 ∧ C'.own g0 = .live b base ∧ st'.frz g0 = false := by
      intro g b base hg
      replace hg : (if g.1 = 3 then (match gs[g.2]? with | some g => C'.own g | none => Own.none) else .none) = .live b base := hg
      split at hg
      · rename_i e
        split at hg
        · rename_i g0 e0
          exact ⟨g0, e, e0, hg, (q7 g0 (List.mem_of_getElem? e0)).2⟩
        · cases hg
      · cases hg
    refine ⟨hc'.defers, u, hu, u, C2, rfl, Rep.rnB (C := C') (C2 := C2) rfl hbxx v u q4 (fun g hg => hown g (by rw [← hgs]; simp [hg])) hr, ?_, ?_, ?_, ?_⟩
    · have m := hc'.mem
      exact { shIn := m.shIn, shFrom := m.shFrom, shOld := m.shOld,
              ownIn := fun g b base hg => by obtain ⟨g0, _, _, hg0, _⟩ := lk g b base hg; exact m.ownIn g0 b base hg0,
              ownOne := fun g g' b base base' hg hg' _ => by
                obtain ⟨g0, e, e0, hg0, hf⟩ := lk g b base hg
                obtain ⟨g0', e', e0', hg0', hf'⟩ := lk g' b base' hg'
                have := m.ownOne g0 g0' b base base' hg0 hg0' hf
                subst this
                have hi := (List.getElem?_eq_some_iff.1 e0).1
                have := (List.getElem?_inj hi q6).1 (e0.trans e0'.symm)
                obtain ⟨x, y⟩ := g; obtain ⟨x', y'⟩ := g'
                simp only at e e' this
                rw [e, e', this],
              ownBox := fun g b base id hg _ hbb => by
                obtain ⟨g0, _, _, hg0, hf⟩ := lk g b base hg
                obtain ⟨_, k, _, hk⟩ := hidB id b hbb
                exact m.ownBox g0 b base k hg0 hf hk,
              ownSh := fun g b base hg _ hs => by obtain ⟨g0, _, _, hg0, hf⟩ := lk g b base hg; exact m.ownSh g0 b base hg0 hf hs,
              ownFrz := fun g b base hg hf => (by cases hf),
              ownMine := fun g b base hg _ => by obtain ⟨g0, _, _, hg0, hf⟩ := lk g b base hg; exact m.ownMine g0 b base hg0 hf,
              boxIn := fun id b hbb => by obtain ⟨_, k, _, hk⟩ := hidB id b hbb; exact m.boxIn k b hk,
              boxOne := fun id id' b h1 h2 => by
                obtain ⟨g1, k, e1, hk⟩ := hidB id b h1
                obtain ⟨g2, k', e2, hk'⟩ := hidB id' b h2
                have := m.boxOne k k' b hk hk'
                subst this
                have := posN_at q3 e1
                have := posN_at q3 e2
                omega,
              boxSh := fun id b hbb hs => by obtain ⟨_, k, _, hk⟩ := hidB id b hbb; exact m.boxSh k b hk hs,
              boxMine := fun id b hbb => by obtain ⟨_, k, _, hk⟩ := hidB id b hbb; exact m.boxMine k b hk,
              kept := m.kept, size := m.size, os := m.os, tape := m.tape, output := m.output,
              inB := fun id b hbb => by
                have h1 := hbig id b hbb
                have h2 := hbx id b hbb
                show (if 1000000 ≤ id then (ids[id - 1000000]?).bind C'.box else none) = some b
                rw [if_pos h1, ← hids, List.getElem?_append_left (by rw [bxIds_length]; omega), bxIds_get, if_pos (by omega), show 1000000 + (id - 1000000) = id by omega]
                exact m.inB id b hbb }
    · intro g hg
      replace hg : (if g.1 = 3 then (match gs[g.2]? with | some g => C'.own g | none => Own.none) else .none) = .dead := hg
      split at hg
      · split at hg
        · rename_i g0 e0
          have := (hc'.cons g0).2 hg
          rw [(q7 g0 (List.mem_of_getElem? e0)).1] at this; cases this
        · cases hg
      · cases hg
    · intro i cs hi0
      rw [rnBLL_get] at hi0
      obtain ⟨cs0, hi, rfl⟩ := Option.map_eq_some_iff.1 hi0
      have hlt := (List.getElem?_eq_some_iff.1 hi).1
      have hid : ids[i]? = some ids[i] := List.getElem?_eq_getElem (by omega)
      obtain ⟨cs1, h1, h2⟩ := hcg i _ hid
      rw [hi] at h1; cases h1
      obtain ⟨b, c', e, lo, hi', g1, g2, g3, g4⟩ := hc'.boxes _ _ h2
      refine ⟨b, c', e, lo, hi', ?_, g2, g3, RepS.rnB (C := C') (C2 := C2) rfl hbxx cs0 _ (okBLL_get q5 i cs0 hi) (fun g hg => hown g ?_) g4⟩
      · have e : C2.box (1000000 + i) = (if 1000000 ≤ 1000000 + i then (ids[1000000 + i - 1000000]?).bind C'.box else none) := rfl
        rw [e, if_pos (by omega), show 1000000 + i - 1000000 = i by omega, hid]
        exact g1
      · rw [← hgs]; exact List.mem_append_left _ (stALL_get i cs0 hi g hg)
    · intro id b hbb
      obtain ⟨h1, k, h2, _⟩ := hidB id b hbb
      refine ⟨h1, ?_⟩
      have := (List.getElem?_eq_some_iff.1 h2).1
      rw [rnBLL_length]
      omega
  rcases he with rfl | rfl <;> exact fin
end Go.VS
