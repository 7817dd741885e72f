/- Part of a framework that states what Go functions answer on values as data; it holds for every program of the model. -/
import Derived.Test.YtijcpdgfbboamaaDoorVsApp3
namespace Go.VS
set_option linter.unusedVariables false
set_option linter.unusedSimpArgs false
set_option linter.unusedSectionVars false
open Go
variable {P : Program}

/-- A call's beginning. -/
def Ent.of (w : World) (Sh : Nat → Prop) (n : Nat) (ht : tblOk w Sh) (hs : ∀ b, Sh b → b < w.heap.size) : Ent := { w0 := w, Sh0 := Sh, own0 := fun _ => False, n := n, tab := ht, sh0 := fun b hb => ⟨hs b hb, id⟩ }

def RepArgs (w : World) (Sh : Nat → Prop) (as : List AV) (vs : List Value) : Prop :=
  as.length = vs.length ∧ ∀ (i : Nat) (a : AV) (v : Value), as[i]? = some a → vs[i]? = some v → RepF w Sh a v

/-- A function, called with what is shared, answers that: nothing that was there has turned. -/
def CallsP (P : Program) (f : FuncId) (args : List AV) (r : AV) : Prop :=
  ∀ (w : World) (Sh : Nat → Prop) (vals : List Value) (ht : tblOk w Sh) (hs : ∀ b, Sh b → b < w.heap.size), RepArgs w Sh args vals →
    Calls P f vals.toArray w fun e w' => ∃ v C', e = .returned v ∧ Rep w' C' r v ∧ MemOk (Ent.of w Sh 0 ht hs) (fun _ => false) C' w' ∧ (∀ id, C'.box id = none) ∧ (∀ g, C'.own g ≠ .dead)

/-! ### Many new names -/

def St.mkNews (st : St) : List Nat → St
  | [] => st
  | k :: ks => (st.mkNew k).mkNews ks

theorem canNew_mkNew {st : St} {k k' : Nat} (h : st.canNew k' = true) (hne : k' ≠ k) : (st.mkNew k).canNew k' = true := by
  simp only [St.canNew, St.mkNew, Bool.and_eq_true, Bool.not_eq_true'] at h ⊢
  obtain ⟨⟨⟨h1, h2⟩, h3⟩, h4⟩ := h
  refine ⟨⟨⟨?_, h2⟩, ?_⟩, ?_⟩
  · rw [upd_ne _ _ hne]; exact h1
  · simp only [updS]; rw [if_neg (by simp [hne])]; exact h3
  · simp only [updS]; rw [if_neg (by simp)]; exact h4

theorem Conc.news {X : Ent} {a : Act} {w : World} : ∀ (l : List (Nat × Own)) {st : St} {C : Ctx}, Conc X st C a w → (l.map (·.1)).Nodup → (∀ t ∈ l, st.canNew t.1 = true) →
    (∀ t ∈ l, t.2 ≠ .dead) →
    (∀ t ∈ l, ∀ b base, t.2 = .live b base → b < w.heap.size ∧ X.mine b ∧ ¬ C.Sh b ∧ (∀ id, C.box id ≠ some b) ∧ ∀ g bs, C.own g ≠ .live b bs) →
    (∀ t ∈ l, ∀ t' ∈ l, ∀ b base base', t.2 = .live b base → t'.2 = .live b base' → t.1 = t'.1) →
    ∃ C', Conc X (st.mkNews (l.map (·.1))) C' a w ∧ C.To w w C' ∧ C'.Sh = C.Sh ∧ C'.box = C.box ∧ (∀ t ∈ l, C'.own (1, t.1) = t.2) ∧
      (∀ g, (∀ t ∈ l, g ≠ (1, t.1)) → C'.own g = C.own g ∨ (C'.own g = .dead ∧ g.1 = 0))
  | [], st, C, h, _, _, _, _, _ => ⟨C, h, ⟨fun _ hb => ⟨hb, rfl⟩, fun _ _ hb => hb, fun _ => .inr (.inr ⟨rfl, fun _ _ _ => rfl⟩)⟩, rfl, rfl, by simp, fun g _ => .inl rfl⟩
  | (k, ow) :: l, st, C, h, hnd, hcan, hdead, hblk, hdis => by
    have hck := hcan (k, ow) (by simp)
    have hck' := hck
    simp only [St.canNew, Bool.and_eq_true, Bool.not_eq_true'] at hck'
    obtain ⟨⟨⟨c1, c2⟩, c3⟩, c4⟩ := hck'
    simp only [List.map_cons, List.nodup_cons] at hnd
    have hk := h.kill (0, k) (by simp)
    have hnone : C.own (1, k) = .none := by
      cases e : C.own (1, k) with
      | none => rfl
      | dead => have := h.made k (by rw [e]; simp); rw [c1] at this; cases this
      | live b base => have := h.made k (by rw [e]; simp); rw [c1] at this; cases this
    have notgt : ∀ j, (updS st.cons (0, k) true) (1, j) = false → st.res j = some (0, k) → False := by
      intro j _ hj
      have := (h.tg j _ hj).1
      rw [c3] at this; cases this
    -- one step
    have step : ∃ C1, Conc X (st.mkNew k) C1 a w ∧ C.To w w C1 ∧ C1.Sh = C.Sh ∧ C1.box = C.box ∧ C1.own (1, k) = ow ∧ (∀ g, g ≠ (1, k) → C1.own g = C.own g ∨ (C1.own g = .dead ∧ g.1 = 0)) := by
      have to1 : ∀ (o' : Stamp → Own), (∀ g, g ≠ (1, k) → g ≠ (0, k) → o' g = C.own g) → o' (0, k) = .dead → C.To w w { C with own := o' } := by
        intro o' ho hd
        refine ⟨fun _ hb => ⟨hb, rfl⟩, fun _ _ hb => hb, fun g => ?_⟩
        by_cases e1 : g = (1, k)
        · subst e1; exact .inl hnone
        · by_cases e2 : g = (0, k)
          · subst e2; exact .inr (.inl hd)
          · exact .inr (.inr ⟨ho g e1 e2, fun _ _ _ => rfl⟩)
      cases how : ow with
      | dead => exact absurd how (hdead (k, ow) (by simp))
      | none =>
        have h2 := hk.mark (d := k) (t0 := (0, k)) c1 (by simp [updS]) (by simp) notgt
        refine ⟨_, h2, to1 _ (fun g _ e2 => by simp [updO, e2]) (by simp [updO]), rfl, rfl, by simp [updO, hnone], fun g _ => ?_⟩
        by_cases e2 : g = (0, k)
        · right; exact ⟨by simp [updO, e2], by simp [e2]⟩
        · left; simp [updO, e2]
      | live b base =>
        obtain ⟨p1, p2, p3, p4, p5⟩ := hblk (k, ow) (by simp) b base how
        have h2 := hk.ownNew (d := k) (b := b) (base := base) (t0 := (0, k)) p1 p2 c1 c2 p3 p4
          (fun g bs hg => by
            simp only [updO] at hg
            split at hg
            · cases hg
            · exact p5 g bs hg)
          (by simp [updS]) (by simp) notgt
        refine ⟨_, h2, to1 _ (fun g e1 e2 => by simp [updO, e1, e2]) (by simp [updO]), rfl, rfl, by simp [updO], fun g e1 => ?_⟩
        by_cases e2 : g = (0, k)
        · right; exact ⟨by simp [updO, e2], by simp [e2]⟩
        · left; simp [updO, e1, e2]
    obtain ⟨C1, q1, q2, q3, q4, q5, q6⟩ := step
    have hne : ∀ t ∈ l, t.1 ≠ k := fun t ht e => hnd.1 (by rw [← e]; exact List.mem_map_of_mem ht)
    obtain ⟨C2, r1, r2, r3, r4, r5, r6⟩ := Conc.news l q1 hnd.2 (fun t ht => canNew_mkNew (hcan t (by simp [ht])) (hne t ht)) (fun t ht => hdead t (by simp [ht]))
      (fun t ht b base hb => by
        obtain ⟨p1, p2, p3, p4, p5⟩ := hblk t (by simp [ht]) b base hb
        refine ⟨p1, p2, by rw [q3]; exact p3, by rw [q4]; exact p4, fun g bs hg => ?_⟩
        by_cases e1 : g = (1, k)
        · subst e1
          rw [q5] at hg
          exact hne t ht (hdis t (by simp [ht]) (k, ow) (by simp) b base bs hb hg)
        · rcases q6 g e1 with e | ⟨e, _⟩
          · rw [e] at hg; exact p5 g bs hg
          · rw [e] at hg; cases hg)
      (fun t ht t' ht' => hdis t (by simp [ht]) t' (by simp [ht']))
    refine ⟨C2, r1, ?_, r3.trans q3, r4.trans q4, ?_, ?_⟩
    · refine ⟨fun b hb => ⟨by rw [r3, q3]; exact hb, rfl⟩, fun id b hb => by rw [r4, q4]; exact hb, fun g => ?_⟩
      rcases q2.own g with e | e | ⟨e, _⟩
      · exact .inl e
      · rcases r2.own g with e' | e' | ⟨e', _⟩
        · rw [e] at e'; cases e'
        · exact .inr (.inl e')
        · exact .inr (.inl (e'.trans e))
      · rcases r2.own g with e' | e' | ⟨e', _⟩
        · exact .inl (e.symm.trans e')
        · exact .inr (.inl e')
        · exact .inr (.inr ⟨e'.trans e, fun _ _ _ => rfl⟩)
    · intro t ht
      rcases List.mem_cons.1 ht with rfl | ht
      · have hne' : ∀ t ∈ l, ((1, k) : Stamp) ≠ (1, t.1) := fun t ht e => hne t ht (by simpa using e.symm)
        rcases r6 (1, k) hne' with e | ⟨_, e⟩
        · rw [e]; exact q5
        · simp at e
      · exact r5 t ht
    · intro g hg
      rcases r6 g (fun t ht => hg t (by simp [ht])) with e | e
      · rcases q6 g (hg (k, ow) (by simp)) with e' | ⟨e', e''⟩
        · exact .inl (e.trans e')
        · exact .inr ⟨e.trans e', e''⟩
      · exact .inr e
end Go.VS
namespace Go.VS
set_option linter.unusedVariables false
set_option linter.unusedSimpArgs false
set_option linter.unusedSectionVars false
open Go
variable {P : Program}

def nm (d p : Nat) : Nat := 1000000 * (p + 1) + d

mutual
def ren3 (d : Nat) : AV → AV
  | .sl (some (g, eo)) nb sz l => .sl (some ((1, nm d g.2), eo)) nb sz l
  | .agg cs => .agg (ren3L d cs)
  | .tup cs => .tup (ren3L d cs)
  | .fn f cs => .fn f (ren3L d cs)
  | v => v
def ren3L (d : Nat) : List AV → List AV
  | [] => []
  | c :: cs => ren3 d c :: ren3L d cs
end
mutual
/-- What an answer may be: names of space 3 alone, no address. -/
def ansOk : AV → Bool
  | .sl (some (g, _)) _ _ _ => g.1 == 3
  | .ptr .. => false
  | .bsl .. => false
  | .eptr .. => false
  | .agg cs => ansOkL cs
  | .tup cs => ansOkL cs
  | .fn _ cs => ansOkL cs
  | _ => true
def ansOkL : List AV → Bool
  | [] => true
  | c :: cs => ansOk c && ansOkL cs
end
mutual
def posOf : AV → List Nat
  | .sl (some (g, _)) _ _ _ => [g.2]
  | .agg cs => posL cs
  | .tup cs => posL cs
  | .fn _ cs => posL cs
  | _ => []
def posL : List AV → List Nat
  | [] => []
  | c :: cs => posOf c ++ posL cs
end
mutual
def scalarAV : AV → Bool
  | .int .. => true
  | .bool .. => true
  | .str .. => true
  | .nilp => true
  | .nilf => true
  | .agg cs => scalarL cs
  | .tup cs => scalarL cs
  | _ => false
def scalarL : List AV → Bool
  | [] => true
  | c :: cs => scalarAV c && scalarL cs
end

mutual
theorem Rep.ren3 {w : World} {C C2 : Ctx} {d : Nat} (hsh : C2.Sh = C.Sh) (hd : ∀ g, C.own g ≠ .dead) : ∀ (a : AV) (v : Value), ansOk a = true → (∀ p ∈ posOf a, C2.own (1, nm d p) = C.own (3, p)) → Rep w C a v → Rep w C2 (VS.ren3 d a) v
  | .undef, _, _, _, _ => trivial
  | .int .., _, _, _, h => h
  | .bool .., _, _, _, h => h
  | .str .., _, _, _, h => h
  | .sl none nb sz l, v, _, _, h => by
    simp only [VS.ren3, Rep] at h ⊢
    rw [hsh]; exact h
  | .sl (some (g, eo)) nb sz l, v, hk, hp, h => by
    have hg : g.1 = 3 := by simpa [ansOk] using hk
    have hgg : g = (3, g.2) := by rw [← hg]
    have ho := hp g.2 (by simp [posOf])
    rw [← hgg] at ho
    rcases h with h | h | ⟨h0, b, base, off, cap, vs, h1, h1', h2, h3, h4, h5, h6⟩
    · exact absurd h (hd g)
    · exact .inr (.inl h)
    · exact .inr (.inr ⟨h0, b, base, off, cap, vs, ho.trans h1, h1', h2, h3, h4, by rw [hsh]; exact h5, h6⟩)
  | .ptr .., _, hk, _, _ => by simp [ansOk] at hk
  | .nilp, _, _, _, h => h
  | .eptr .., _, hk, _, _ => by simp [ansOk] at hk
  | .agg cs, v, hk, hp, h => by
    obtain ⟨vs, h1, h2⟩ := h
    exact ⟨vs, h1, RepS.ren3 hsh hd cs vs hk hp h2⟩
  | .tup cs, v, hk, hp, h => by
    obtain ⟨vs, h1, h2⟩ := h
    exact ⟨vs, h1, RepSU.ren3 hsh hd cs vs hk hp h2⟩
  | .fn f cs, v, hk, hp, h => by
    obtain ⟨vs, h1, h2⟩ := h
    exact ⟨vs, h1, RepS.ren3 hsh hd cs vs hk hp h2⟩
  | .nilf, _, _, _, h => h
  | .bsl .., _, hk, _, _ => by simp [ansOk] at hk
theorem RepS.ren3 {w : World} {C C2 : Ctx} {d : Nat} (hsh : C2.Sh = C.Sh) (hd : ∀ g, C.own g ≠ .dead) : ∀ (l : List AV) (vs : List Value), ansOkL l = true → (∀ p ∈ posL l, C2.own (1, nm d p) = C.own (3, p)) → RepS w C l vs → RepS w C2 (ren3L d l) vs
  | [], _, _, _, h => h
  | c :: cs, _, hk, hp, h => by
    obtain ⟨v, r, h1, h0, h2, h3⟩ := h
    simp only [ansOkL, Bool.and_eq_true] at hk
    exact ⟨v, r, h1, h0, Rep.ren3 hsh hd c v hk.1 (fun p hp' => hp p (by simp [posL, hp'])) h2, RepS.ren3 hsh hd cs r hk.2 (fun p hp' => hp p (by simp [posL, hp'])) h3⟩
theorem RepSU.ren3 {w : World} {C C2 : Ctx} {d : Nat} (hsh : C2.Sh = C.Sh) (hd : ∀ g, C.own g ≠ .dead) : ∀ (l : List AV) (vs : List Value), ansOkL l = true → (∀ p ∈ posL l, C2.own (1, nm d p) = C.own (3, p)) → RepSU w C l vs → RepSU w C2 (ren3L d l) vs
  | [], _, _, _, h => h
  | c :: cs, _, hk, hp, h => by
    obtain ⟨v, r, h1, h2, h3⟩ := h
    simp only [ansOkL, Bool.and_eq_true] at hk
    exact ⟨v, r, h1, Rep.ren3 hsh hd c v hk.1 (fun p hp' => hp p (by simp [posL, hp'])) h2, RepSU.ren3 hsh hd cs r hk.2 (fun p hp' => hp p (by simp [posL, hp'])) h3⟩
end

mutual
theorem Rep.scalar {w w' : World} {C C2 : Ctx} : ∀ (a : AV) (v : Value), scalarAV a = true → Rep w C a v → Rep w' C2 a v
  | .undef, _, hk, _ => by simp [scalarAV] at hk
  | .int .., _, _, h => h
  | .bool .., _, _, h => h
  | .str .., _, _, h => h
  | .sl .., _, hk, _ => by simp [scalarAV] at hk
  | .ptr .., _, hk, _ => by simp [scalarAV] at hk
  | .nilp, _, _, h => h
  | .eptr .., _, hk, _ => by simp [scalarAV] at hk
  | .agg cs, v, hk, h => by
    obtain ⟨vs, h1, h2⟩ := h
    exact ⟨vs, h1, RepS.scalar cs vs hk h2⟩
  | .tup cs, v, hk, h => by
    obtain ⟨vs, h1, h2⟩ := h
    exact ⟨vs, h1, RepSU.scalar cs vs hk h2⟩
  | .fn .., _, hk, _ => by simp [scalarAV] at hk
  | .nilf, _, _, h => h
  | .bsl .., _, hk, _ => by simp [scalarAV] at hk
theorem RepS.scalar {w w' : World} {C C2 : Ctx} : ∀ (l : List AV) (vs : List Value), scalarL l = true → RepS w C l vs → RepS w' C2 l vs
  | [], _, _, h => h
  | c :: cs, _, hk, h => by
    obtain ⟨v, r, h1, h0, h2, h3⟩ := h
    simp only [scalarL, Bool.and_eq_true] at hk
    exact ⟨v, r, h1, h0, Rep.scalar c v hk.1 h2, RepS.scalar cs r hk.2 h3⟩
theorem RepSU.scalar {w w' : World} {C C2 : Ctx} : ∀ (l : List AV) (vs : List Value), scalarL l = true → RepSU w C l vs → RepSU w' C2 l vs
  | [], _, _, h => h
  | c :: cs, _, hk, h => by
    obtain ⟨v, r, h1, h2, h3⟩ := h
    simp only [scalarL, Bool.and_eq_true] at hk
    exact ⟨v, r, h1, Rep.scalar c v hk.1 h2, RepSU.scalar cs r hk.2 h3⟩
end

/-- New memory, and more that is shared in it. -/
theorem Conc.growSh {X : Ent} {st : St} {C : Ctx} {a : Act} {w w' : World} {Sh' : Nat → Prop} (h : Conc X st C a w) (hs : w.heap.size ≤ w'.heap.size) (hk : ∀ k, k < w.heap.size → w'.heap[k]? = w.heap[k]?)
    (ho : w'.os = w.os) (ht : w'.tape = w.tape) (hu : w'.output = w.output) (h1 : ∀ b, C.Sh b → Sh' b) (h2 : ∀ b, Sh' b → b < w'.heap.size) (h3 : ∀ b, Sh' b → C.Sh b ∨ w.heap.size ≤ b) :
    Conc X st { C with Sh := Sh' } a w' := by
  have hg := h.grow hs hk ho ht hu
  have m := hg.mem
  have m0 := h.mem
  have t : C.To w' w' { C with Sh := Sh' } := ⟨fun b hb => ⟨h1 b hb, rfl⟩, fun _ _ hb => hb, fun _ => .inr (.inr ⟨rfl, fun _ _ _ => rfl⟩)⟩
  refine hg.to t (fun _ _ hb => hb) (fun _ _ _ => rfl) ?_ hg.cons hg.made
  exact { shIn := h2, shFrom := fun b hb => (h3 b hb).elim (m.shFrom b) fun hb => .inr (.inl (Nat.le_trans m0.size hb)), shOld := fun b hb => h1 b (m.shOld b hb), ownIn := m.ownIn, ownOne := m.ownOne,
          ownBox := m.ownBox, ownSh := fun g b base hg hf hb => (h3 b hb).elim (m.ownSh g b base hg hf) fun hb => by have := m0.ownIn g b base hg; omega,
          ownFrz := fun g b base hg hf => h1 b (m.ownFrz g b base hg hf), ownMine := m.ownMine, boxIn := m.boxIn, boxOne := m.boxOne,
          boxSh := fun id b hb hs => (h3 b hs).elim (m.boxSh id b hb) fun hs => by have := m0.boxIn id b hb; omega,
          boxMine := m.boxMine, kept := m.kept, size := m.size, os := m.os, tape := m.tape, output := m.output }

/-! ### A call -/

def evArgs (P : Program) (st : St) : List Operand → List TypeId → List AV
  | [], _ => []
  | x :: xs, t :: ts => st.ev P t x :: evArgs P st xs ts
  | x :: xs, [] => st.ev P 0 x :: evArgs P st xs []

theorem evArgs_rep {X : Ent} {st : St} {C : Ctx} {a : Act} {w : World} (h : Conc X st C a w) : ∀ (xs : List Operand) (ts : List TypeId),
    (evArgs P st xs ts).length = xs.length ∧ ∀ (i : Nat) (v : AV) (u : Value), (evArgs P st xs ts)[i]? = some v → (xs.map a.eval)[i]? = some u → Rep w C v u
  | [], _ => ⟨rfl, fun i v u h1 _ => by simp [evArgs] at h1⟩
  | x :: xs, t :: ts => by
    obtain ⟨h1, h2⟩ := evArgs_rep h xs ts
    refine ⟨by simp [evArgs, h1], fun i v u hv hu => ?_⟩
    cases i with
    | zero => simp [evArgs] at hv hu; subst hv; subst hu; exact h.ev P t x
    | succ i => exact h2 i v u (by simpa [evArgs] using hv) (by simpa using hu)
  | x :: xs, [] => by
    obtain ⟨h1, h2⟩ := evArgs_rep h xs []
    refine ⟨by simp [evArgs, h1], fun i v u hv hu => ?_⟩
    cases i with
    | zero => simp [evArgs] at hv hu; subst hv; subst hu; exact h.ev P 0 x
    | succ i => exact h2 i v u (by simpa [evArgs] using hv) (by simpa using hu)

/-- What is called, and on what: a function of the program by its number. -/
def calls (P : Program) (st : St) (o : Oper) : Option (FuncId × List AV) :=
  match o.op with
  | .call c =>
    match c.callee with
    | .value x =>
      match st.ev P 0 x with
      | .fn f cap => some (f, evArgs P st c.args.toList c.argTypes.toList ++ cap)
      | _ => none
    | _ => none
  | _ => none

def callOk (P : Program) (f : FuncId) : Bool :=
  match P.funcs[f]? with
  | some fn => fn.body.isSome && fn.name != "runtime.NumGoroutine"
  | none => false

def argsOk (st : St) (as : List AV) : Bool := as.all fun a => frozable a && (stampsOf a).all fun g => !st.cons g

def callSt (st : St) (d : Option Nat) (as : List AV) (r : AV) : Option St :=
  if scalarAV r = true then some (st.putO d r) else
    match d with
    | some d =>
      let st1 := st.freezeL (as.flatMap stampsOf)
      need (ansOk r = true ∧ (posOf r).Nodup ∧ ((posOf r).all fun p => st1.canNew (nm d p)) = true) (some ((st1.mkNews ((posOf r).map (nm d))).put d (ren3 d r)))
    | none => none

theorem step_call {X : Ent} {st st' : St} {o : Oper} {f : FuncId} {as : List AV} {r : AV} (h : calls P st o = some (f, as)) (hok : callOk P f = true) (hargs : argsOk st as = true)
    (hc : CallsP P f (as.map froz) r) (hst : callSt st o.dst as r = some st') (hd : St.fits X.n o.dst = true) : OpStep P X st o st' := by
  intro C a w hC K Q hK
  unfold calls at h
  split at h
  · rename_i c ho
    split at h
    · rename_i x hcal
      split at h
      · rename_i f' cap hx
        cases h
        have hfr := hC.ev P 0 x
        rw [hx] at hfr
        obtain ⟨cvs, hfv, hcap⟩ := hfr
        -- the values
        obtain ⟨hl, hev⟩ := evArgs_rep (P := P) hC c.args.toList c.argTypes.toList
        have hvals : ∀ (i : Nat) (v : AV) (u : Value), (evArgs P st c.args.toList c.argTypes.toList ++ cap)[i]? = some v → (c.args.toList.map a.eval ++ cvs)[i]? = some u → Rep w C v u := by
          intro i v u hv hu
          by_cases hi : i < c.args.toList.length
          · rw [List.getElem?_append_left (by omega)] at hv
            rw [List.getElem?_append_left (by simpa using hi)] at hu
            exact hev i v u hv hu
          · rw [List.getElem?_append_right (by omega)] at hv
            rw [List.getElem?_append_right (by simpa using hi)] at hu
            obtain ⟨u', hu', _, hr⟩ := hcap.get hv
            simp only [List.length_map] at hu
            rw [hl, hu] at hu'
            cases hu'
            exact hr
        have hlen : (evArgs P st c.args.toList c.argTypes.toList ++ cap).length = (c.args.toList.map a.eval ++ cvs).length := by
          simp [hl, hcap.length]
        generalize hAS : evArgs P st c.args.toList c.argTypes.toList ++ cap = as at *
        generalize hVS : c.args.toList.map a.eval ++ cvs = vals at *
        have hexec : (execOp a.eval o).run P w = .ok (.enter f vals.toArray) w := by
          unfold callOk at hok
          split at hok
          · rename_i fn hfn
            simp only [Bool.and_eq_true, bne_iff_ne, ne_eq] at hok
            obtain ⟨hb1, hb2⟩ := hok
            have e : (c.args.map a.eval ++ cvs.toArray) = vals.toArray := by rw [← hVS]; apply Array.ext'; simp
            simp [execOp, ho, resolve, hcal, hfv, Deferred.ofValue, invoke, callFunc, hfn, hb2, e]
            intro hbn; simp [hbn] at hb1
          · cases hok
        have hargs' : ∀ v ∈ as, frozable v = true ∧ ∀ g ∈ stampsOf v, st.cons g = false := by
          intro v hv
          have := List.all_eq_true.1 hargs v hv
          simp only [Bool.and_eq_true, List.all_eq_true, Bool.not_eq_true'] at this
          exact this
        -- the callee's arguments, once what they own is shared
        have hrep : ∀ (C1 : Ctx), C.To w w C1 → C1.own = C.own → (∀ g ∈ as.flatMap stampsOf, ∀ b base, C.own g = .live b base → C1.Sh b) → RepArgs w C1.Sh (as.map froz) vals := by
          intro C1 t1 o1 s1
          refine ⟨by simpa using hlen, fun i v u hv hu => ?_⟩
          simp only [List.getElem?_map, Option.map_eq_some_iff] at hv
          obtain ⟨v0, hv0, rfl⟩ := hv
          have hm : v0 ∈ as := List.mem_of_getElem? hv0
          obtain ⟨hf, hg⟩ := hargs' v0 hm
          refine froz_ok v0 u hf (fun g hgs => ⟨fun e => ?_, fun b base hb => ?_⟩) (Rep.to t1 v0 u (hvals i v0 u hv0 hu))
          · rw [o1] at e
            have := (hC.cons g).2 e
            rw [hg g hgs] at this; cases this
          · rw [o1] at hb
            exact s1 g (List.mem_flatMap.2 ⟨v0, hm, hgs⟩) b base hb
        unfold Oper.wp
        rw [hexec, Oper.upon_enter]
        unfold callSt at hst
        split at hst
        · -- a plain answer: what was lent is one's own again
          rename_i hsc
          cases hst
          let C1 : Ctx := { C with Sh := fun b => C.Sh b ∨ ∃ g ∈ as.flatMap stampsOf, ∃ base, C.own g = .live b base }
          have ra := hrep C1 ⟨fun b hb => ⟨.inl hb, rfl⟩, fun _ _ hb => hb, fun _ => .inr (.inr ⟨rfl, fun _ _ _ => rfl⟩)⟩ rfl (fun g hg b base hb => .inr ⟨g, hg, base, hb⟩)
          refine (hc w C1.Sh vals (hC.mem.tab.keep fun b hb => ⟨.inl hb, rfl⟩) (fun b hb => hb.elim (hC.mem.shIn b) fun ⟨g, _, base, hb⟩ => hC.mem.ownIn g b base hb) ra).mono ?_
          rintro e w' ⟨v, C', rfl, hr, m', _, _⟩
          have hk : ∀ k, k < w.heap.size → w'.heap[k]? = w.heap[k]? := fun k hk => m'.kept k hk (fun h => h)
          exact hK _ _ _ ((hC.grow m'.size hk m'.os m'.tape m'.output).putO hd (Rep.scalar r v hsc hr))
        · rename_i hsc
          split at hst
          · rename_i d hdst
            obtain ⟨⟨hok1, hnd, hcan⟩, hst⟩ := need_some hst
            cases hst
            have hn : d < X.n := by rw [hdst] at hd; simpa [St.fits] using hd
            obtain ⟨C1, hc1, t1, o1, b1, m1, s1⟩ := hC.freezeL (as.flatMap stampsOf) (fun g hg => by
              obtain ⟨v, hv, hg⟩ := List.mem_flatMap.1 hg
              exact (hargs' v hv).2 g hg)
            refine (hc w C1.Sh vals hc1.mem.tab hc1.mem.shIn (hrep C1 t1 o1 s1)).mono ?_
            rintro e w' ⟨v, C', rfl, hr, m', hbx, hdd⟩
            have hk : ∀ k, k < w.heap.size → w'.heap[k]? = w.heap[k]? := fun k hk => m'.kept k hk (fun h => h)
            have hc2 := hc1.growSh (Sh' := C'.Sh) m'.size hk m'.os m'.tape m'.output (fun b hb => m'.shOld b hb) m'.shIn (fun b hb => (m'.shFrom b hb).imp id fun h => h.elim id fun h => h.elim)
            have hmine : ∀ g b base, C'.own g = .live b base → w.heap.size ≤ b := fun g b base hg => (m'.ownMine g b base hg rfl).elim id fun h => h.elim
            have inj : ∀ p p', nm d p = nm d p' → p = p' := fun p p' h => by unfold nm at h; omega
            obtain ⟨C3, hc3, t3, s3, b3, ow3, _⟩ := hc2.news ((posOf r).map fun p => (nm d p, C'.own (3, p)))
              (by
                rw [List.map_map]
                exact List.Pairwise.map _ (fun a b hab h => hab (inj a b h)) hnd)
              (fun t ht => by
                obtain ⟨p, hp, rfl⟩ := List.mem_map.1 ht
                exact List.all_eq_true.1 hcan p hp)
              (fun t ht => by
                obtain ⟨p, hp, rfl⟩ := List.mem_map.1 ht
                exact hdd _)
              (fun t ht b base hb => by
                obtain ⟨p, hp, rfl⟩ := List.mem_map.1 ht
                have hge := hmine _ _ _ hb
                refine ⟨m'.ownIn _ _ _ hb, .inl (Nat.le_trans hC.mem.size hge), m'.ownSh _ _ _ hb rfl, fun id hid => ?_, fun g bs hg => ?_⟩
                · have := hc1.mem.boxIn id b hid; omega
                · have := hc1.mem.ownIn g b bs hg; omega)
              (fun t ht t' ht' b base base' hb hb' => by
                obtain ⟨p, hp, rfl⟩ := List.mem_map.1 ht
                obtain ⟨p', hp', rfl⟩ := List.mem_map.1 ht'
                have := m'.ownOne _ _ _ _ _ hb hb' rfl
                simp only [Prod.mk.injEq, true_and] at this
                rw [this])
            have hmm : (((posOf r).map fun p => (nm d p, C'.own (3, p))).map (·.1)) = (posOf r).map (nm d) := by simp
            rw [hmm] at hc3
            refine hK _ _ _ (by rw [hdst]; exact hc3.put hn (Rep.ren3 (C := C') s3 hdd r v hok1 (fun p hp => ow3 (nm d p, C'.own (3, p)) (List.mem_map.2 ⟨p, hp, rfl⟩)) hr))
          · cases hst
      · cases h
    · cases h
  · cases h
end Go.VS
