/- Part of a framework that states what Go functions answer on values as data; it holds for every program of the model. -/
import Derived.Test.YtfemncfhiihckaaDoorVsApp3
namespace Go.VS
set_option linter.unusedVariables false
set_option linter.unusedSimpArgs false
set_option linter.unusedSectionVars false
open Go
variable {P : Program}
/-- A call's beginning. -/
def Ent.of (w : World) (Sh : Nat → Prop) (n : Nat) (ht : tblOk w Sh) (hs : ∀ b, Sh b → b < w.heap.size) : Ent := { w0 := w, Sh0 := Sh, own0 := fun _ => False, n := n, tab := ht, sh0 := fun b hb => ⟨hs b hb, id⟩ }
def RepArgs (w : World) (Sh : Nat → Prop) (as : List AV) (vs : List Value) : Prop :=
  as.length = vs.length ∧ ∀ (i : Nat) (a : AV) (v : Value), as[i]? = some a → vs[i]? = some v → RepF w Sh a v
/-- A function, called with what is shared, answers that: nothing that was there has turned. -/
def CallsP (P : Program) (f : FuncId) (args : List AV) (r : AV) : Prop :=
  ∀ (w : World) (Sh : Nat → Prop) (vals : List Value) (ht : tblOk w Sh) (hs : ∀ b, Sh b → b < w.heap.size), RepArgs w Sh args vals →
    Calls P f vals.toArray w fun e w' => ∃ v C', e = .returned v ∧ Rep w' C' r v ∧ MemOk (Ent.of w Sh 0 ht hs) (fun _ => false) C' w' ∧ (∀ id, C'.box id = none) ∧ (∀ g, C'.own g ≠ .dead)
def St.mkNews (st : St) : List Nat → St
  | [] => st
  | k :: ks => (st.mkNew k).mkNews ks
theorem canNew_mkNew {st : St} {k k' : Nat} (h : st.canNew k' = true) (hne : k' ≠ k) : (st.mkNew k).canNew k' = true := by
  simp only [St.canNew, St.mkNew, Bool.and_eq_true, Bool.not_eq_true'] at h ⊢
  obtain ⟨⟨⟨h1, h2⟩, h3⟩, h4⟩ := h
  refine ⟨⟨⟨?_, h2⟩, ?_⟩, ?_⟩
  · rw [upd_ne _ _ hne]; exact h1
  · simp only [updS]; rw [if_neg (by simp [hne])]; exact h3
  · simp only [updS]; rw [if_neg (by simp)]; exact h4
theorem Conc.news {X : Ent} {a : Act} {w : World} : ∀ (l : List (Nat × Own)) {st : St} {C : Ctx}, Conc X st C a w → (l.map (·.1)).Nodup → (∀ t ∈ l, st.canNew t.1 = true) →
    (∀ t ∈ l, t.2 ≠ .dead) →
    (∀ t ∈ l, ∀ b base, t.2 = .live b base → b < w.heap.size ∧ X.mine b ∧ ¬ C.Sh b ∧ (∀ id, C.box id ≠ some b) ∧ (∀ g bs, C.own g ≠ .live b bs) ∧ ¬ C.fo b) →
    (∀ t ∈ l, ∀ t' ∈ l, ∀ b base base', t.2 = .live b base → t'.2 = .live b base' → t.1 = t'.1) →
    ∃ C', Conc X (st.mkNews (l.map (·.1))) C' a w ∧ C.To w w C' ∧ C'.Sh = C.Sh ∧ C'.box = C.box ∧ (∀ t ∈ l, C'.own (1, t.1) = t.2) ∧
      (∀ g, (∀ t ∈ l, g ≠ (1, t.1)) → C'.own g = C.own g ∨ (C'.own g = .dead ∧ g.1 = 0))
  | [], st, C, h, _, _, _, _, _ => ⟨C, h, ⟨fun _ hb => ⟨hb, rfl⟩, fun _ _ hb => hb, fun _ => .inr (.inr ⟨rfl, fun _ _ _ => rfl⟩)⟩, rfl, rfl, by simp, fun g _ => .inl rfl⟩
  | (k, ow) :: l, st, C, h, hnd, hcan, hdead, hblk, hdis => by
    have hck := hcan (k, ow) (by simp)
    have hck' := hck
    simp only [St.canNew, Bool.and_eq_true, Bool.not_eq_true'] at hck'
    obtain ⟨⟨⟨c1, c2⟩, c3⟩, c4⟩ := hck'
    simp only [List.map_cons, List.nodup_cons] at hnd
    have hk := h.kill (0, k) (by simp)
    have hnone : C.own (1, k) = .none := by
      cases e : C.own (1, k) with
      | none => rfl
      | dead => have := h.made k (by rw [e]; simp); rw [c1] at this; cases this
      | live b base => have := h.made k (by rw [e]; simp); rw [c1] at this; cases this
    have notgt : ∀ j, (updS st.cons (0, k) true) (1, j) = false → st.res j = some (0, k) → False := by
      intro j _ hj
      have := (h.tg j _ hj).1
      rw [c3] at this; cases this
    -- one step
    have step : ∃ C1, Conc X (st.mkNew k) C1 a w ∧ C.To w w C1 ∧ C1.Sh = C.Sh ∧ C1.box = C.box ∧ C1.own (1, k) = ow ∧ (∀ g, g ≠ (1, k) → C1.own g = C.own g ∨ (C1.own g = .dead ∧ g.1 = 0)) ∧ C1.fo = C.fo := by
      have to1 : ∀ (o' : Stamp → Own), (∀ g, g ≠ (1, k) → g ≠ (0, k) → o' g = C.own g) → o' (0, k) = .dead → C.To w w { C with own := o' } := by
        intro o' ho hd
        refine ⟨fun _ hb => ⟨hb, rfl⟩, fun _ _ hb => hb, fun g => ?_⟩
        by_cases e1 : g = (1, k)
        · subst e1; exact .inl hnone
        · by_cases e2 : g = (0, k)
          · subst e2; exact .inr (.inl hd)
          · exact .inr (.inr ⟨ho g e1 e2, fun _ _ _ => rfl⟩)
      cases how : ow with
      | dead => exact absurd how (hdead (k, ow) (by simp))
      | none =>
        have h2 := hk.mark (d := k) (t0 := (0, k)) c1 (by simp [updS]) (by simp) notgt
        refine ⟨_, h2, to1 _ (fun g _ e2 => by simp [updO, e2]) (by simp [updO]), rfl, rfl, by simp [updO, hnone], fun g _ => ?_, rfl⟩
        by_cases e2 : g = (0, k)
        · right; exact ⟨by simp [updO, e2], by simp [e2]⟩
        · left; simp [updO, e2]
      | live b base =>
        obtain ⟨p1, p2, p3, p4, p5, p6⟩ := hblk (k, ow) (by simp) b base how
        have h2 := hk.ownNew (d := k) (b := b) (base := base) (t0 := (0, k)) p1 p2 c1 c2 p3 p4
          (fun g bs hg => by
            simp only [updO] at hg
            split at hg
            · cases hg
            · exact p5 g bs hg)
          p6 (by simp [updS]) (by simp) notgt
        refine ⟨_, h2, to1 _ (fun g e1 e2 => by simp [updO, e1, e2]) (by simp [updO]), rfl, rfl, by simp [updO], fun g e1 => ?_, rfl⟩
        by_cases e2 : g = (0, k)
        · right; exact ⟨by simp [updO, e2], by simp [e2]⟩
        · left; simp [updO, e1, e2]
    obtain ⟨C1, q1, q2, q3, q4, q5, q6, q7⟩ := step
    have hne : ∀ t ∈ l, t.1 ≠ k := fun t ht e => hnd.1 (by rw [← e]; exact List.mem_map_of_mem ht)
    obtain ⟨C2, r1, r2, r3, r4, r5, r6⟩ := Conc.news l q1 hnd.2 (fun t ht => canNew_mkNew (hcan t (by simp [ht])) (hne t ht)) (fun t ht => hdead t (by simp [ht]))
      (fun t ht b base hb => by
        obtain ⟨p1, p2, p3, p4, p5, p6⟩ := hblk t (by simp [ht]) b base hb
        refine ⟨p1, p2, by rw [q3]; exact p3, by rw [q4]; exact p4, fun g bs hg => ?_, by rw [q7]; exact p6⟩
        by_cases e1 : g = (1, k)
        · subst e1
          rw [q5] at hg
          exact hne t ht (hdis t (by simp [ht]) (k, ow) (by simp) b base bs hb hg)
        · rcases q6 g e1 with e | ⟨e, _⟩
          · rw [e] at hg; exact p5 g bs hg
          · rw [e] at hg; cases hg)
      (fun t ht t' ht' => hdis t (by simp [ht]) t' (by simp [ht']))
    refine ⟨C2, r1, ?_, r3.trans q3, r4.trans q4, ?_, ?_⟩
    · refine ⟨fun b hb => ⟨by rw [r3, q3]; exact hb, rfl⟩, fun id b hb => by rw [r4, q4]; exact hb, fun g => ?_⟩
      rcases q2.own g with e | e | ⟨e, _⟩
      · exact .inl e
      · rcases r2.own g with e' | e' | ⟨e', _⟩
        · rw [e] at e'; cases e'
        · exact .inr (.inl e')
        · exact .inr (.inl (e'.trans e))
      · rcases r2.own g with e' | e' | ⟨e', _⟩
        · exact .inl (e.symm.trans e')
        · exact .inr (.inl e')
        · exact .inr (.inr ⟨e'.trans e, fun _ _ _ => rfl⟩)
    · intro t ht
      rcases List.mem_cons.1 ht with rfl | ht
      · have hne' : ∀ t ∈ l, ((1, k) : Stamp) ≠ (1, t.1) := fun t ht e => hne t ht (by simpa using e.symm)
        rcases r6 (1, k) hne' with e | ⟨_, e⟩
        · rw [e]; exact q5
        · simp at e
      · exact r5 t ht
    · intro g hg
      rcases r6 g (fun t ht => hg t (by simp [ht])) with e | e
      · rcases q6 g (hg (k, ow) (by simp)) with e' | ⟨e', e''⟩
        · exact .inl (e.trans e')
        · exact .inr ⟨e.trans e', e''⟩
      · exact .inr e
end Go.VS
namespace Go.VS
set_option linter.unusedVariables false
set_option linter.unusedSimpArgs false
set_option linter.unusedSectionVars false
open Go
variable {P : Program}
def nm (d p : Nat) : Nat := 1000000 * (p + 1) + d
mutual
def ren3 (d : Nat) : AV → AV
  | .sl (some (g, eo)) nb sz l => .sl (some ((1, nm d g.2), eo)) nb sz l
  | .agg cs => .agg (ren3L d cs)
  | .tup cs => .tup (ren3L d cs)
  | .fn f cs => .fn f (ren3L d cs)
  | v => v
def ren3L (d : Nat) : List AV → List AV
  | [] => []
  | c :: cs => ren3 d c :: ren3L d cs
end
mutual
/-- What an answer may be: names of space 3 alone, no address. -/
def ansOk : AV → Bool
  | .sl (some (g, _)) _ _ _ => g.1 == 3
  | .ptr .. => false
  | .bsl .. => false
  | .eptr .. => false
  | .agg cs => ansOkL cs
  | .tup cs => ansOkL cs
  | .fn _ cs => ansOkL cs
  | _ => true
def ansOkL : List AV → Bool
  | [] => true
  | c :: cs => ansOk c && ansOkL cs
end
mutual
def posOf : AV → List Nat
  | .sl (some (g, _)) _ _ _ => [g.2]
  | .agg cs => posL cs
  | .tup cs => posL cs
  | .fn _ cs => posL cs
  | _ => []
def posL : List AV → List Nat
  | [] => []
  | c :: cs => posOf c ++ posL cs
end
mutual
def scalarAV : AV → Bool
  | .int .. => true
  | .bool .. => true
  | .str .. => true
  | .nilp => true
  | .nilf => true
  | .yl _ => true
  | .agg cs => scalarL cs
  | .tup cs => scalarL cs
  | _ => false
def scalarL : List AV → Bool
  | [] => true
  | c :: cs => scalarAV c && scalarL cs
end
mutual
theorem Rep.ren3 {w : World} {C C2 : Ctx} {d : Nat} (hsh : C2.Sh = C.Sh) (hd : ∀ g, C.own g ≠ .dead) : ∀ (a : AV) (v : Value), ansOk a = true → (∀ p ∈ posOf a, C2.own (1, nm d p) = C.own (3, p)) → Rep w C a v → Rep w C2 (VS.ren3 d a) v
  | .undef, _, _, _, _ => trivial
  | .ghost .., _, _, _, _ => trivial
  | .hid _, _, _, _, _ => trivial
  | .int .., _, _, _, h => h
  | .bool .., _, _, _, h => h
  | .str .., _, _, _, h => h
  | .sl none nb sz l, v, _, _, h => by
    simp only [VS.ren3, Rep] at h ⊢
    rw [hsh]; exact h
  | .sl (some (g, eo)) nb sz l, v, hk, hp, h => by
    have hg : g.1 = 3 := by simpa [ansOk] using hk
    have hgg : g = (3, g.2) := by rw [← hg]
    have ho := hp g.2 (by simp [posOf])
    rw [← hgg] at ho
    rcases h with h | h | ⟨h0, b, base, off, cap, vs, h1, h1', h2, h3, h4, h5, h6⟩
    · exact absurd h (hd g)
    · exact .inr (.inl h)
    · exact .inr (.inr ⟨h0, b, base, off, cap, vs, ho.trans h1, h1', h2, h3, h4, by rw [hsh]; exact h5, h6⟩)
  | .ptr .., _, hk, _, _ => by simp [ansOk] at hk
  | .nilp, _, _, _, h => h
  | .eptr .., _, hk, _, _ => by simp [ansOk] at hk
  | .agg cs, v, hk, hp, h => by
    obtain ⟨vs, h1, h2⟩ := h
    exact ⟨vs, h1, RepS.ren3 hsh hd cs vs hk hp h2⟩
  | .tup cs, v, hk, hp, h => by
    obtain ⟨vs, h1, h2⟩ := h
    exact ⟨vs, h1, RepSU.ren3 hsh hd cs vs hk hp h2⟩
  | .fn f cs, v, hk, hp, h => by
    obtain ⟨vs, h1, h2⟩ := h
    exact ⟨vs, h1, RepS.ren3 hsh hd cs vs hk hp h2⟩
  | .nilf, _, _, _, h => h
  | .yl _, _, _, _, h => h
  | .itp .., _, _, _, h => h
  | .bsl .., _, hk, _, _ => by simp [ansOk] at hk
theorem RepS.ren3 {w : World} {C C2 : Ctx} {d : Nat} (hsh : C2.Sh = C.Sh) (hd : ∀ g, C.own g ≠ .dead) : ∀ (l : List AV) (vs : List Value), ansOkL l = true → (∀ p ∈ posL l, C2.own (1, nm d p) = C.own (3, p)) → RepS w C l vs → RepS w C2 (ren3L d l) vs
  | [], _, _, _, h => h
  | c :: cs, _, hk, hp, h => by
    obtain ⟨v, r, h1, h0, h2, h3⟩ := h
    simp only [ansOkL, Bool.and_eq_true] at hk
    exact ⟨v, r, h1, h0, Rep.ren3 hsh hd c v hk.1 (fun p hp' => hp p (by simp [posL, hp'])) h2, RepS.ren3 hsh hd cs r hk.2 (fun p hp' => hp p (by simp [posL, hp'])) h3⟩
theorem RepSU.ren3 {w : World} {C C2 : Ctx} {d : Nat} (hsh : C2.Sh = C.Sh) (hd : ∀ g, C.own g ≠ .dead) : ∀ (l : List AV) (vs : List Value), ansOkL l = true → (∀ p ∈ posL l, C2.own (1, nm d p) = C.own (3, p)) → RepSU w C l vs → RepSU w C2 (ren3L d l) vs
  | [], _, _, _, h => h
  | c :: cs, _, hk, hp, h => by
    obtain ⟨v, r, h1, h2, h3⟩ := h
    simp only [ansOkL, Bool.and_eq_true] at hk
    exact ⟨v, r, h1, Rep.ren3 hsh hd c v hk.1 (fun p hp' => hp p (by simp [posL, hp'])) h2, RepSU.ren3 hsh hd cs r hk.2 (fun p hp' => hp p (by simp [posL, hp'])) h3⟩
end
mutual
theorem Rep.scalar {w w' : World} {C C2 : Ctx} : ∀ (a : AV) (v : Value), scalarAV a = true → Rep w C a v → Rep w' C2 a v
  | .undef, _, hk, _ => by simp [scalarAV] at hk
  | .ghost .., _, hk, _ => by simp [scalarAV] at hk
  | .hid _, _, hk, _ => by simp [scalarAV] at hk
  | .int .., _, _, h => h
  | .bool .., _, _, h => h
  | .str .., _, _, h => h
  | .sl .., _, hk, _ => by simp [scalarAV] at hk
  | .ptr .., _, hk, _ => by simp [scalarAV] at hk
  | .nilp, _, _, h => h
  | .eptr .., _, hk, _ => by simp [scalarAV] at hk
  | .agg cs, v, hk, h => by
    obtain ⟨vs, h1, h2⟩ := h
    exact ⟨vs, h1, RepS.scalar cs vs hk h2⟩
  | .tup cs, v, hk, h => by
    obtain ⟨vs, h1, h2⟩ := h
    exact ⟨vs, h1, RepSU.scalar cs vs hk h2⟩
  | .fn .., _, hk, _ => by simp [scalarAV] at hk
  | .nilf, _, _, h => h
  | .yl _, _, _, h => h
  | .itp .., _, _, h => h
  | .bsl .., _, hk, _ => by simp [scalarAV] at hk
theorem RepS.scalar {w w' : World} {C C2 : Ctx} : ∀ (l : List AV) (vs : List Value), scalarL l = true → RepS w C l vs → RepS w' C2 l vs
  | [], _, _, h => h
  | c :: cs, _, hk, h => by
    obtain ⟨v, r, h1, h0, h2, h3⟩ := h
    simp only [scalarL, Bool.and_eq_true] at hk
    exact ⟨v, r, h1, h0, Rep.scalar c v hk.1 h2, RepS.scalar cs r hk.2 h3⟩
theorem RepSU.scalar {w w' : World} {C C2 : Ctx} : ∀ (l : List AV) (vs : List Value), scalarL l = true → RepSU w C l vs → RepSU w' C2 l vs
  | [], _, _, h => h
  | c :: cs, _, hk, h => by
    obtain ⟨v, r, h1, h2, h3⟩ := h
    simp only [scalarL, Bool.and_eq_true] at hk
    exact ⟨v, r, h1, Rep.scalar c v hk.1 h2, RepSU.scalar cs r hk.2 h3⟩
end
/-- New memory, and more that is shared in it. -/
theorem Conc.growSh {X : Ent} {st : St} {C : Ctx} {a : Act} {w w' : World} {Sh' : Nat → Prop} (h : Conc X st C a w) (hs : w.heap.size ≤ w'.heap.size) (hk : ∀ k, k < w.heap.size → w'.heap[k]? = w.heap[k]?)
    (ho : w'.os = w.os) (ht : w'.tape = w.tape) (hu : w'.output = w.output) (h1 : ∀ b, C.Sh b → Sh' b) (h2 : ∀ b, Sh' b → b < w'.heap.size) (h3 : ∀ b, Sh' b → C.Sh b ∨ w.heap.size ≤ b) :
    Conc X st { C with Sh := Sh' } a w' := by
  have hg := h.grow hs hk ho ht hu
  have m := hg.mem
  have m0 := h.mem
  have t : C.To w' w' { C with Sh := Sh' } := ⟨fun b hb => ⟨h1 b hb, rfl⟩, fun _ _ hb => hb, fun _ => .inr (.inr ⟨rfl, fun _ _ _ => rfl⟩)⟩
  refine hg.to t (fun _ _ hb => hb) (fun _ _ _ => rfl) ?_ hg.cons hg.made
    (hg.frg.go (.same fun a u hr => Rep.to t a u hr) rfl (fun _ hb => .inl hb) (fun b hb => (h3 b hb).imp id fun hb hf => by have := h.frg.fin b hf; omega) (fun _ _ _ => rfl) (Nat.le_refl _) rfl rfl rfl)
  exact { shIn := h2, shFrom := fun b hb => (h3 b hb).elim (m.shFrom b) fun hb => .inr (.inl (Nat.le_trans m0.size hb)), shOld := fun b hb => h1 b (m.shOld b hb), ownIn := m.ownIn, ownOne := m.ownOne,
          ownBox := m.ownBox, ownSh := fun g b base hg hf hb => (h3 b hb).elim (m.ownSh g b base hg hf) fun hb => by have := m0.ownIn g b base hg; omega,
          ownFrz := fun g b base hg hf => h1 b (m.ownFrz g b base hg hf), ownMine := m.ownMine, boxIn := m.boxIn, boxOne := m.boxOne,
          boxSh := fun id b hb hs => (h3 b hs).elim (m.boxSh id b hb) fun hs => by have := m0.boxIn id b hb; omega,
          boxMine := m.boxMine, kept := m.kept, size := m.size, os := m.os, tape := m.tape, output := m.output }
def evArgs (P : Program) (st : St) : List Operand → List TypeId → List AV
  | [], _ => []
  | x :: xs, t :: ts => st.ev P t x :: evArgs P st xs ts
  | x :: xs, [] => st.ev P 0 x :: evArgs P st xs []
theorem evArgs_rep {X : Ent} {st : St} {C : Ctx} {a : Act} {w : World} (h : Conc X st C a w) : ∀ (xs : List Operand) (ts : List TypeId),
    (evArgs P st xs ts).length = xs.length ∧ ∀ (i : Nat) (v : AV) (u : Value), (evArgs P st xs ts)[i]? = some v → (xs.map a.eval)[i]? = some u → Rep w C v u
  | [], _ => ⟨rfl, fun i v u h1 _ => by simp [evArgs] at h1⟩
  | x :: xs, t :: ts => by
    obtain ⟨h1, h2⟩ := evArgs_rep h xs ts
    refine ⟨by simp [evArgs, h1], fun i v u hv hu => ?_⟩
    cases i with
    | zero => simp [evArgs] at hv hu; subst hv; subst hu; exact h.ev P t x
    | succ i => exact h2 i v u (by simpa [evArgs] using hv) (by simpa using hu)
  | x :: xs, [] => by
    obtain ⟨h1, h2⟩ := evArgs_rep h xs []
    refine ⟨by simp [evArgs, h1], fun i v u hv hu => ?_⟩
    cases i with
    | zero => simp [evArgs] at hv hu; subst hv; subst hu; exact h.ev P 0 x
    | succ i => exact h2 i v u (by simpa [evArgs] using hv) (by simpa using hu)
/-- What is called, and on what: a function of the program by its number. -/
def calls (P : Program) (st : St) (o : Oper) : Option (FuncId × List AV) :=
  match o.op with
  | .call c =>
    match c.callee with
    | .value x =>
      match st.ev P 0 x with
      | .fn f cap => some (f, evArgs P st c.args.toList c.argTypes.toList ++ cap)
      | _ => none
    | _ => none
  | _ => none
def callOk (P : Program) (f : FuncId) : Bool :=
  match P.funcs[f]? with
  | some fn => fn.body.isSome && fn.name != "runtime.NumGoroutine"
  | none => false
def argsOk (st : St) (as : List AV) : Bool := as.all fun a => frozable a && (stampsOf a).all fun g => !st.cons g
def callSt (st : St) (d : Option Nat) (as : List AV) (r : AV) : Option St :=
  if scalarAV r = true then some (st.putO d r) else
    match d with
    | some d =>
      let st1 := st.freezeL (as.flatMap stampsOf)
      need (ansOk r = true ∧ (posOf r).Nodup ∧ ((posOf r).all fun p => st1.canNew (nm d p)) = true) (some ((st1.mkNews ((posOf r).map (nm d))).put d (ren3 d r)))
    | none => none
theorem step_call {X : Ent} {st st' : St} {o : Oper} {f : FuncId} {as : List AV} {r : AV} (h : calls P st o = some (f, as)) (hok : callOk P f = true) (hargs : argsOk st as = true)
    (hc : CallsP P f (as.map froz) r) (hst : callSt st o.dst as r = some st') (hd : St.fits X.n o.dst = true) : OpStep P X st o st' := by
  intro C a w hC K Q hK
  unfold calls at h
  split at h
  · rename_i c ho
    split at h
    · rename_i x hcal
      split at h
      · rename_i f' cap hx
        cases h
        have hfr := hC.ev P 0 x
        rw [hx] at hfr
        obtain ⟨cvs, hfv, hcap⟩ := hfr
        -- the values
        obtain ⟨hl, hev⟩ := evArgs_rep (P := P) hC c.args.toList c.argTypes.toList
        have hvals : ∀ (i : Nat) (v : AV) (u : Value), (evArgs P st c.args.toList c.argTypes.toList ++ cap)[i]? = some v → (c.args.toList.map a.eval ++ cvs)[i]? = some u → Rep w C v u := by
          intro i v u hv hu
          by_cases hi : i < c.args.toList.length
          · rw [List.getElem?_append_left (by omega)] at hv
            rw [List.getElem?_append_left (by simpa using hi)] at hu
            exact hev i v u hv hu
          · rw [List.getElem?_append_right (by omega)] at hv
            rw [List.getElem?_append_right (by simpa using hi)] at hu
            obtain ⟨u', hu', _, hr⟩ := hcap.get hv
            simp only [List.length_map] at hu
            rw [hl, hu] at hu'
            cases hu'
            exact hr
        have hlen : (evArgs P st c.args.toList c.argTypes.toList ++ cap).length = (c.args.toList.map a.eval ++ cvs).length := by
          simp [hl, hcap.length]
        generalize hAS : evArgs P st c.args.toList c.argTypes.toList ++ cap = as at *
        generalize hVS : c.args.toList.map a.eval ++ cvs = vals at *
        have hexec : (execOp a.eval o).run P w = .ok (.enter f vals.toArray) w := by
          unfold callOk at hok
          split at hok
          · rename_i fn hfn
            simp only [Bool.and_eq_true, bne_iff_ne, ne_eq] at hok
            obtain ⟨hb1, hb2⟩ := hok
            have e : (c.args.map a.eval ++ cvs.toArray) = vals.toArray := by rw [← hVS]; apply Array.ext'; simp
            simp [execOp, ho, resolve, hcal, hfv, Deferred.ofValue, invoke, callFunc, hfn, hb2, e]
            intro hbn; simp [hbn] at hb1
          · cases hok
        have hargs' : ∀ v ∈ as, frozable v = true ∧ ∀ g ∈ stampsOf v, st.cons g = false := by
          intro v hv
          have := List.all_eq_true.1 hargs v hv
          simp only [Bool.and_eq_true, List.all_eq_true, Bool.not_eq_true'] at this
          exact this
        -- the callee's arguments, once what they own is shared
        have hrep : ∀ (C1 : Ctx), C.To w w C1 → C1.own = C.own → (∀ g ∈ as.flatMap stampsOf, ∀ b base, C.own g = .live b base → C1.Sh b) → RepArgs w C1.Sh (as.map froz) vals := by
          intro C1 t1 o1 s1
          refine ⟨by simpa using hlen, fun i v u hv hu => ?_⟩
          simp only [List.getElem?_map, Option.map_eq_some_iff] at hv
          obtain ⟨v0, hv0, rfl⟩ := hv
          have hm : v0 ∈ as := List.mem_of_getElem? hv0
          obtain ⟨hf, hg⟩ := hargs' v0 hm
          refine froz_ok v0 u hf (fun g hgs => ⟨fun e => ?_, fun b base hb => ?_⟩) (Rep.to t1 v0 u (hvals i v0 u hv0 hu))
          · rw [o1] at e
            have := (hC.cons g).2 e
            rw [hg g hgs] at this; cases this
          · rw [o1] at hb
            exact s1 g (List.mem_flatMap.2 ⟨v0, hm, hgs⟩) b base hb
        refine ⟨fun _ _ => trivial, ?_⟩
        rw [semAt_run hexec (by simp), Oper.uponIn_enter]
        refine ⟨fun h => (by simp [Fr] at h), callsIn_fr ?_⟩
        unfold callSt at hst
        split at hst
        · -- a plain answer: what was lent is one's own again
          rename_i hsc
          cases hst
          let C1 : Ctx := { C with Sh := fun b => C.Sh b ∨ ∃ g ∈ as.flatMap stampsOf, ∃ base, C.own g = .live b base }
          have ra := hrep C1 ⟨fun b hb => ⟨.inl hb, rfl⟩, fun _ _ hb => hb, fun _ => .inr (.inr ⟨rfl, fun _ _ _ => rfl⟩)⟩ rfl (fun g hg b base hb => .inr ⟨g, hg, base, hb⟩)
          refine (hc w C1.Sh vals (hC.mem.tab.keep fun b hb => ⟨.inl hb, rfl⟩) (fun b hb => hb.elim (hC.mem.shIn b) fun ⟨g, _, base, hb⟩ => hC.mem.ownIn g b base hb) ra).mono ?_
          rintro e w' ⟨v, C', rfl, hr, m', _, _⟩
          have hk : ∀ k, k < w.heap.size → w'.heap[k]? = w.heap[k]? := fun k hk => m'.kept k hk (fun h => h)
          exact hK _ _ _ ((hC.grow m'.size hk m'.os m'.tape m'.output).putO hd (Rep.scalar r v hsc hr))
        · rename_i hsc
          split at hst
          · rename_i d hdst
            obtain ⟨⟨hok1, hnd, hcan⟩, hst⟩ := need_some hst
            cases hst
            have hn : d < X.n := by rw [hdst] at hd; simpa [St.fits] using hd
            obtain ⟨C1, hc1, t1, o1, b1, m1, s1⟩ := hC.freezeL (as.flatMap stampsOf) (fun g hg => by
              obtain ⟨v, hv, hg⟩ := List.mem_flatMap.1 hg
              exact (hargs' v hv).2 g hg)
            refine (hc w C1.Sh vals hc1.mem.tab hc1.mem.shIn (hrep C1 t1 o1 s1)).mono ?_
            rintro e w' ⟨v, C', rfl, hr, m', hbx, hdd⟩
            have hk : ∀ k, k < w.heap.size → w'.heap[k]? = w.heap[k]? := fun k hk => m'.kept k hk (fun h => h)
            have hc2 := hc1.growSh (Sh' := C'.Sh) m'.size hk m'.os m'.tape m'.output (fun b hb => m'.shOld b hb) m'.shIn (fun b hb => (m'.shFrom b hb).imp id fun h => h.elim id fun h => h.elim)
            have hmine : ∀ g b base, C'.own g = .live b base → w.heap.size ≤ b := fun g b base hg => (m'.ownMine g b base hg rfl).elim id fun h => h.elim
            have inj : ∀ p p', nm d p = nm d p' → p = p' := fun p p' h => by unfold nm at h; omega
            obtain ⟨C3, hc3, t3, s3, b3, ow3, _⟩ := hc2.news ((posOf r).map fun p => (nm d p, C'.own (3, p)))
              (by
                rw [List.map_map]
                exact List.Pairwise.map _ (fun a b hab h => hab (inj a b h)) hnd)
              (fun t ht => by
                obtain ⟨p, hp, rfl⟩ := List.mem_map.1 ht
                exact List.all_eq_true.1 hcan p hp)
              (fun t ht => by
                obtain ⟨p, hp, rfl⟩ := List.mem_map.1 ht
                exact hdd _)
              (fun t ht b base hb => by
                obtain ⟨p, hp, rfl⟩ := List.mem_map.1 ht
                have hge := hmine _ _ _ hb
                refine ⟨m'.ownIn _ _ _ hb, .inl (Nat.le_trans hC.mem.size hge), m'.ownSh _ _ _ hb rfl, fun id hid => ?_, fun g bs hg => ?_, fun hf => ?_⟩
                · have := hc1.mem.boxIn id b hid; omega
                · have := hc1.mem.ownIn g b bs hg; omega
                · have := hc1.frg.fin b hf; omega)
              (fun t ht t' ht' b base base' hb hb' => by
                obtain ⟨p, hp, rfl⟩ := List.mem_map.1 ht
                obtain ⟨p', hp', rfl⟩ := List.mem_map.1 ht'
                have := m'.ownOne _ _ _ _ _ hb hb' rfl
                simp only [Prod.mk.injEq, true_and] at this
                rw [this])
            have hmm : (((posOf r).map fun p => (nm d p, C'.own (3, p))).map (·.1)) = (posOf r).map (nm d) := by simp
            rw [hmm] at hc3
            refine hK _ _ _ (by rw [hdst]; exact hc3.put hn (Rep.ren3 (C := C') s3 hdd r v hok1 (fun p hp => ow3 (nm d p, C'.own (3, p)) (List.mem_map.2 ⟨p, hp, rfl⟩)) hr))
          · cases hst
      · cases h
    · cases h
  · cases h
end Go.VS
namespace Go.VS
set_option linter.unusedVariables false
set_option linter.unusedSimpArgs false
set_option linter.unusedSectionVars false
open Go
variable {P : Program}
inductive Fate where
  | gone
  | shared
  | named (h : Stamp)
def fate (st : St) (g : Stamp) : Fate :=
  if (st.cons g || (g.1 == 1 && !st.made g.2)) = true then .gone else if st.frz g = true then .shared else .named (st.tname g)
mutual
def thAV (F : Stamp → Fate) : AV → AV
  | .sl (some (g, eo)) nb sz l =>
    match F g with
    | .gone => .undef
    | .shared => .sl none nb sz l
    | .named h => .sl (some (h, eo)) nb sz l
  | .eptr (some (g, eo)) sz l i off =>
    match F g with
    | .gone => .undef
    | .shared => .eptr none sz l i off
    | .named h => .eptr (some (h, eo)) sz l i off
  | .agg cs => .agg (thL F cs)
  | .tup cs => .tup (thL F cs)
  | .fn f cs => .fn f (thL F cs)
  | .hid v => .hid (thAV F v)
  | v => v
def thL (F : Stamp → Fate) : List AV → List AV
  | [] => []
  | c :: cs => thAV F c :: thL F cs
end
mutual
theorem Rep.th {w : World} {C C' : Ctx} {F : Stamp → Fate} (hsh : C'.Sh = C.Sh) (hbx : C'.box = C.box) (hn : ∀ g h, F g = .named h → C'.own h = C.own g) (hs : ∀ g, F g = .shared → C.own g ≠ .dead ∧ ∀ b base, C.own g = .live b base → C.Sh b) :
    ∀ (a : AV) (v : Value), Rep w C a v → Rep w C' (thAV F a) v
  | .undef, _, _ => trivial
  | .ghost .., _, _ => trivial
  | .hid _, _, _ => trivial
  | .int .., _, h => h
  | .bool .., _, h => h
  | .str .., _, h => h
  | .sl none nb sz l, v, h => by
    simp only [thAV, Rep] at h ⊢
    rw [hsh]; exact h
  | .sl (some (g, eo)) nb sz l, v, h => by
    simp only [thAV]
    split
    · trivial
    · rename_i e
      obtain ⟨hd, hg⟩ := hs g e
      rcases h with h | h | ⟨h0, b, base, off, cap, vs, h1, h1', h2, h3, h4, h5, h6⟩
      · exact absurd h hd
      · exact .inl h
      · exact .inr ⟨h0, b, off, cap, vs, none, h2, h3, .inr ⟨rfl, by rw [hsh]; exact hg b base h1, h4⟩, by rw [hsh]; exact h5⟩
    · rename_i h' e
      have ho := hn g h' e
      rcases h with h | h | ⟨h0, b, base, off, cap, vs, h1, h1', h2, h3, h4, h5, h6⟩
      · exact .inl (ho.trans h)
      · exact .inr (.inl h)
      · exact .inr (.inr ⟨h0, b, base, off, cap, vs, ho.trans h1, h1', h2, h3, h4, by rw [hsh]; exact h5, h6⟩)
  | .ptr id off, v, h => by
    obtain ⟨b, h1, h2⟩ := h
    exact ⟨b, by rw [hbx]; exact h1, h2⟩
  | .nilp, _, h => h
  | .eptr none sz l i off, v, h => by
    simp only [thAV, Rep] at h ⊢
    rw [hsh]; exact h
  | .eptr (some (g, eo)) sz l i off, v, h => by
    simp only [thAV]
    split
    · trivial
    · rename_i e
      obtain ⟨hd, hg⟩ := hs g e
      rcases h with h | ⟨b, base, vs, h1, h2, h3, h3', h4, h5, h6⟩
      · exact absurd h hd
      · exact ⟨b, base + eo * sz, vs, h2, h3, h3', by rw [hsh]; exact hg b base h1, h4, by rw [hsh]; exact h5⟩
    · rename_i h' e
      have ho := hn g h' e
      rcases h with h | ⟨b, base, vs, h1, h2, h3, h3', h4, h5, h6⟩
      · exact .inl (ho.trans h)
      · exact .inr ⟨b, base, vs, ho.trans h1, h2, h3, h3', h4, by rw [hsh]; exact h5, h6⟩
  | .agg cs, v, h => by
    obtain ⟨vs, h1, h2⟩ := h
    exact ⟨vs, h1, RepS.th hsh hbx hn hs cs vs h2⟩
  | .tup cs, v, h => by
    obtain ⟨vs, h1, h2⟩ := h
    exact ⟨vs, h1, RepSU.th hsh hbx hn hs cs vs h2⟩
  | .fn f cs, v, h => by
    obtain ⟨vs, h1, h2⟩ := h
    exact ⟨vs, h1, RepS.th hsh hbx hn hs cs vs h2⟩
  | .nilf, _, h => h
  | .yl _, _, h => h
  | .itp .., _, h => h
  | .bsl id off len cap, v, h => by
    obtain ⟨b, h1, h2⟩ := h
    exact ⟨b, by rw [hbx]; exact h1, h2⟩
theorem RepS.th {w : World} {C C' : Ctx} {F : Stamp → Fate} (hsh : C'.Sh = C.Sh) (hbx : C'.box = C.box) (hn : ∀ g h, F g = .named h → C'.own h = C.own g) (hs : ∀ g, F g = .shared → C.own g ≠ .dead ∧ ∀ b base, C.own g = .live b base → C.Sh b) :
    ∀ (l : List AV) (vs : List Value), RepS w C l vs → RepS w C' (thL F l) vs
  | [], _, h => h
  | c :: cs, _, h => by
    obtain ⟨v, r, h1, h0, h2, h3⟩ := h
    exact ⟨v, r, h1, h0, Rep.th hsh hbx hn hs c v h2, RepS.th hsh hbx hn hs cs r h3⟩
theorem RepSU.th {w : World} {C C' : Ctx} {F : Stamp → Fate} (hsh : C'.Sh = C.Sh) (hbx : C'.box = C.box) (hn : ∀ g h, F g = .named h → C'.own h = C.own g) (hs : ∀ g, F g = .shared → C.own g ≠ .dead ∧ ∀ b base, C.own g = .live b base → C.Sh b) :
    ∀ (l : List AV) (vs : List Value), RepSU w C l vs → RepSU w C' (thL F l) vs
  | [], _, h => h
  | c :: cs, _, h => by
    obtain ⟨v, r, h1, h2, h3⟩ := h
    exact ⟨v, r, h1, Rep.th hsh hbx hn hs c v h2, RepSU.th hsh hbx hn hs cs r h3⟩
end
theorem thAV_hid (F : Stamp → Fate) : ∀ v, isHid v = false → isHid (thAV F v) = false := by
  intro v h
  unfold thAV
  split
  · split <;> rfl
  · split <;> rfl
  all_goals first | rfl | exact h | cases h
theorem thAV_gh (F : Stamp → Fate) : ∀ v l s d t, thAV F v = .ghost l s d t → v = .ghost l s d t := by
  intro v l s d t h
  unfold thAV at h
  split at h
  · split at h <;> cases h
  · split at h <;> cases h
  all_goals first | exact h | cases h
theorem thAV_si (F : Stamp → Fate) : ∀ v b p, thAV F v = .itp b p → v = .itp b p := by
  intro v b p h
  unfold thAV at h
  split at h
  · split at h <;> cases h
  · split at h <;> cases h
  all_goals first | exact h | cases h
def St.settle (st : St) : St :=
  { s := fun t => thAV (fate st) (st.s t), bx := fun id => (st.bx id).map (thL (fate st)), cons := fun _ => false, frz := fun _ => false, made := fun _ => false, res := fun _ => none }
theorem fate_named {st : St} {g h : Stamp} (e : fate st g = .named h) : st.cons g = false ∧ (g.1 = 1 → st.made g.2 = true) ∧ st.frz g = false ∧ h = st.tname g := by
  unfold fate at e
  split at e
  · cases e
  · rename_i h1
    split at e
    · cases e
    · rename_i h2
      cases e
      simp only [Bool.or_eq_true, Bool.and_eq_true, beq_iff_eq, Bool.not_eq_true', not_or, not_and, Bool.not_eq_true, Bool.not_eq_false] at h1
      exact ⟨h1.1, h1.2, by simpa using h2, rfl⟩
theorem named_inj {X : Ent} {st : St} {C : Ctx} {a : Act} {w : World} (hc : Conc X st C a w) {g g' h : Stamp} (e : fate st g = .named h) (e' : fate st g' = .named h) : g = g' := by
  obtain ⟨c, m, f, t⟩ := fate_named e
  obtain ⟨c', m', f', t'⟩ := fate_named e'
  obtain ⟨g1, g2⟩ := g
  obtain ⟨g1', g2'⟩ := g'
  simp only at m m'
  unfold St.tname at t t'
  simp only at t t'
  by_cases e1 : g1 = 1 <;> by_cases e1' : g1' = 1
  · subst e1; subst e1'
    obtain ⟨x, hx⟩ := Option.isSome_iff_exists.1 (hc.tgMade g2 (m rfl))
    obtain ⟨x', hx'⟩ := Option.isSome_iff_exists.1 (hc.tgMade g2' (m' rfl))
    rw [hx] at t; rw [hx'] at t'
    simp only [if_true, Option.getD_some] at t t'
    have := hc.tgInj g2 g2' h c c' (by rw [hx, t]) (by rw [hx', t'])
    rw [this]
  · subst e1
    obtain ⟨x, hx⟩ := Option.isSome_iff_exists.1 (hc.tgMade g2 (m rfl))
    rw [hx] at t
    simp only [if_true, Option.getD_some] at t
    rw [if_neg e1'] at t'
    have := (hc.tg g2 x hx).1
    rw [← t, t', c'] at this; cases this
  · subst e1'
    obtain ⟨x', hx'⟩ := Option.isSome_iff_exists.1 (hc.tgMade g2' (m' rfl))
    rw [hx'] at t'
    simp only [if_true, Option.getD_some] at t'
    rw [if_neg e1] at t
    have := (hc.tg g2' x' hx').1
    rw [← t', t, c] at this; cases this
  · rw [if_neg e1] at t; rw [if_neg e1'] at t'
    rw [← t, ← t']
theorem named_not1 {X : Ent} {st : St} {C : Ctx} {a : Act} {w : World} (hc : Conc X st C a w) {g h : Stamp} (e : fate st g = .named h) : h.1 ≠ 1 := by
  obtain ⟨c, m, f, t⟩ := fate_named e
  subst t
  unfold St.tname
  split
  · rename_i e1
    obtain ⟨x, hx⟩ := Option.isSome_iff_exists.1 (hc.tgMade g.2 (m e1))
    rw [hx]
    exact (hc.tg g.2 x hx).2
  · assumption
open Classical in
theorem Conc.settle {X : Ent} {st : St} {C : Ctx} {a : Act} {w : World} (hc : Conc X st C a w) : ∃ C', Conc X st.settle C' a w := by
  let own' : Stamp → Own := fun h => if e : ∃ g, fate st g = .named h then C.own (Classical.choose e) else .none
  have hn : ∀ g h, fate st g = .named h → own' h = C.own g := by
    intro g h e
    have ex : ∃ g, fate st g = .named h := ⟨g, e⟩
    simp only [own', dif_pos ex]
    rw [named_inj hc (Classical.choose_spec ex) e]
  have back : ∀ h, own' h ≠ .none → ∃ g, fate st g = .named h ∧ own' h = C.own g := by
    intro h hh
    by_cases ex : ∃ g, fate st g = .named h
    · obtain ⟨g, e⟩ := ex
      exact ⟨g, e, hn g h e⟩
    · exact absurd (by simp only [own', dif_neg ex]) hh
  have hs : ∀ g, fate st g = .shared → C.own g ≠ .dead ∧ ∀ b base, C.own g = .live b base → C.Sh b := by
    intro g e
    unfold fate at e
    split at e
    · cases e
    · rename_i h1
      split at e
      · rename_i h2
        simp only [Bool.or_eq_true, not_or, Bool.not_eq_true] at h1
        exact ⟨fun x => (by have := (hc.cons g).2 x; rw [h1.1] at this; cases this), fun b base hb => hc.mem.ownFrz g b base hb h2⟩
      · cases e
  have live : ∀ h b base, own' h = .live b base → ∃ g, fate st g = .named h ∧ C.own g = .live b base ∧ st.frz g = false := by
    intro h b base hh
    obtain ⟨g, e, e2⟩ := back h (by rw [hh]; simp)
    exact ⟨g, e, by rw [← e2]; exact hh, (fate_named e).2.2.1⟩
  refine ⟨⟨C.Sh, own', C.box, C.fo⟩, ?_⟩
  have th := @Rep.th w C ⟨C.Sh, own', C.box, C.fo⟩ (fate st) rfl rfl hn hs
  have ths := @RepS.th w C ⟨C.Sh, own', C.box, C.fo⟩ (fate st) rfl rfl hn hs
  have m := hc.mem
  refine { n := hc.n, slots := fun t => th _ _ (hc.slots t), frg := ?_, boxes := ?_, boxSome := ?_, mem := ?_, cons := ?_, made := ?_, tg := ?_, tgInj := ?_, tgMade := ?_ }
  · refine hc.frg.go (.map th (thAV_hid _) (thAV_gh _) (thAV_si _) (fun _ => rfl) rfl (fun _ _ => ⟨_, rfl⟩)) rfl (fun b hb => ?_) (fun _ hb => .inl hb) (fun _ _ _ => rfl) (Nat.le_refl _) rfl rfl rfl
    rcases hb with ⟨h, base, hh, _⟩ | hb
    · obtain ⟨g, _, hg, hf⟩ := live h b base hh
      exact .inl (.inl ⟨g, base, hg, hf⟩)
    · exact .inl (.inr hb)
  · intro id cs hid
    simp only [St.settle, Option.map_eq_some_iff] at hid
    obtain ⟨cs0, h0, rfl⟩ := hid
    obtain ⟨b, c, e, lo, hi, h1, h2, h3, h4⟩ := hc.boxes id cs0 h0
    exact ⟨b, c, e, lo, hi, h1, h2, h3, ths _ _ h4⟩
  · intro id b hb
    have := hc.boxSome id b hb
    simp only [St.settle, Option.isSome_map]
    exact this
  · exact { shIn := m.shIn, shFrom := m.shFrom, shOld := m.shOld,
            ownIn := fun h b base hh => by obtain ⟨g, _, hg, _⟩ := live h b base hh; exact m.ownIn g b base hg,
            ownOne := fun h h' b base base' hh hh' _ => by
              obtain ⟨g, e, hg, hf⟩ := live h b base hh
              obtain ⟨g', e', hg', hf'⟩ := live h' b base' hh'
              have := m.ownOne g g' b base base' hg hg' hf
              subst this
              rw [e] at e'; cases e'; rfl,
            ownBox := fun h b base id hh _ hb => by obtain ⟨g, _, hg, hf⟩ := live h b base hh; exact m.ownBox g b base id hg hf hb,
            ownSh := fun h b base hh _ hb => by obtain ⟨g, _, hg, hf⟩ := live h b base hh; exact m.ownSh g b base hg hf hb,
            ownFrz := fun h b base hh hf => (by cases hf),
            ownMine := fun h b base hh _ => by obtain ⟨g, _, hg, hf⟩ := live h b base hh; exact m.ownMine g b base hg hf,
            boxIn := m.boxIn, boxOne := m.boxOne, boxSh := m.boxSh, boxMine := m.boxMine, kept := m.kept, size := m.size, os := m.os, tape := m.tape, output := m.output }
  · intro h
    simp only [St.settle]
    constructor
    · intro x; cases x
    · intro x
      obtain ⟨g, e, e2⟩ := back h (by rw [x]; simp)
      have := (hc.cons g).2 (by rw [← e2]; exact x)
      rw [(fate_named e).1] at this; cases this
  · intro d hd
    obtain ⟨g, e, _⟩ := back (1, d) hd
    exact absurd rfl (named_not1 hc e)
  · intro d h hh; cases hh
  · intro d d' h _ _ hh; cases hh
  · intro d hd; cases hd
mutual
def dropAV (id : Nat) : AV → AV
  | .ptr i off => if i = id then .undef else .ptr i off
  | .bsl i off len cap => if i = id then .undef else .bsl i off len cap
  | .agg cs => .agg (dropL id cs)
  | .tup cs => .tup (dropL id cs)
  | .fn f cs => .fn f (dropL id cs)
  | .hid v => .hid (dropAV id v)
  | v => v
def dropL (id : Nat) : List AV → List AV
  | [] => []
  | c :: cs => dropAV id c :: dropL id cs
end
mutual
theorem Rep.drop {w : World} {C : Ctx} {id : Nat} : ∀ (a : AV) (v : Value), Rep w C a v → Rep w { C with box := upd C.box id none } (dropAV id a) v
  | .undef, _, _ => trivial
  | .ghost .., _, _ => trivial
  | .hid _, _, _ => trivial
  | .int .., _, h => h
  | .bool .., _, h => h
  | .str .., _, h => h
  | .sl none .., v, h => h
  | .sl (some _) .., v, h => h
  | .ptr i off, v, h => by
    simp only [dropAV]
    split
    · trivial
    · rename_i e
      obtain ⟨b, h1, h2⟩ := h
      exact ⟨b, by simp only [upd_ne _ _ e]; exact h1, h2⟩
  | .nilp, _, h => h
  | .eptr none .., v, h => h
  | .eptr (some _) .., v, h => h
  | .agg cs, v, h => by
    obtain ⟨vs, h1, h2⟩ := h
    exact ⟨vs, h1, RepS.dropB cs vs h2⟩
  | .tup cs, v, h => by
    obtain ⟨vs, h1, h2⟩ := h
    exact ⟨vs, h1, RepSU.dropB cs vs h2⟩
  | .fn f cs, v, h => by
    obtain ⟨vs, h1, h2⟩ := h
    exact ⟨vs, h1, RepS.dropB cs vs h2⟩
  | .nilf, _, h => h
  | .yl _, _, h => h
  | .itp .., _, h => h
  | .bsl i off len cap, v, h => by
    simp only [dropAV]
    split
    · trivial
    · rename_i e
      obtain ⟨b, h1, h2⟩ := h
      exact ⟨b, by simp only [upd_ne _ _ e]; exact h1, h2⟩
theorem RepS.dropB {w : World} {C : Ctx} {id : Nat} : ∀ (l : List AV) (vs : List Value), RepS w C l vs → RepS w { C with box := upd C.box id none } (dropL id l) vs
  | [], _, h => h
  | c :: cs, _, h => by
    obtain ⟨v, r, h1, h0, h2, h3⟩ := h
    exact ⟨v, r, h1, h0, Rep.drop c v h2, RepS.dropB cs r h3⟩
theorem RepSU.dropB {w : World} {C : Ctx} {id : Nat} : ∀ (l : List AV) (vs : List Value), RepSU w C l vs → RepSU w { C with box := upd C.box id none } (dropL id l) vs
  | [], _, h => h
  | c :: cs, _, h => by
    obtain ⟨v, r, h1, h2, h3⟩ := h
    exact ⟨v, r, h1, Rep.drop c v h2, RepSU.dropB cs r h3⟩
end
theorem dropAV_hid (id : Nat) : ∀ v, isHid v = false → isHid (dropAV id v) = false := by
  intro v h
  unfold dropAV
  split
  · split <;> rfl
  · split <;> rfl
  all_goals first | rfl | exact h | cases h
theorem dropAV_gh (id : Nat) : ∀ v l s d t, dropAV id v = .ghost l s d t → v = .ghost l s d t := by
  intro v l s d t h
  unfold dropAV at h
  split at h
  · split at h <;> cases h
  · split at h <;> cases h
  all_goals first | exact h | cases h
theorem dropAV_si (id : Nat) : ∀ v b p, dropAV id v = .itp b p → v = .itp b p := by
  intro v b p h
  unfold dropAV at h
  split at h
  · split at h <;> cases h
  · split at h <;> cases h
  all_goals first | exact h | cases h
def St.dropBox (st : St) (id : Nat) : St :=
  { st with s := fun t => dropAV id (st.s t), bx := upd (fun k => (st.bx k).map (dropL id)) id none }
theorem Conc.dropBox {X : Ent} {st : St} {C : Ctx} {a : Act} {w : World} (hc : Conc X st C a w) (id : Nat) (hid : id < 1000000) : Conc X (st.dropBox id) { C with box := upd C.box id none } a w := by
  have m := hc.mem
  have bk : ∀ k b, upd C.box id none k = some b → k ≠ id ∧ C.box k = some b := by
    intro k b hb
    by_cases e : k = id
    · subst e; simp at hb
    · rw [upd_ne _ _ e] at hb; exact ⟨e, hb⟩
  refine { n := hc.n, slots := fun t => Rep.drop _ _ (hc.slots t), frg := ?_, boxes := ?_, boxSome := ?_, mem := ?_, cons := hc.cons, made := hc.made, tg := hc.tg, tgInj := hc.tgInj, tgMade := hc.tgMade }
  · refine hc.frg.go (.map (fun a u hr => Rep.drop a u hr) (dropAV_hid _) (dropAV_gh _) (dropAV_si _) (fun _ => rfl) rfl (fun _ _ => ⟨_, rfl⟩)) rfl (fun b hb => ?_) (fun _ hb => .inl hb) (fun _ _ _ => rfl) (Nat.le_refl _) rfl rfl rfl
    rcases hb with hb | ⟨k, hb⟩
    · exact .inl (.inl hb)
    · exact .inl (.inr ⟨k, (bk k b hb).2⟩)
  · intro k cs hk
    by_cases e : k = id
    · subst e; simp [St.dropBox] at hk
    · simp only [St.dropBox, upd_ne _ _ e, Option.map_eq_some_iff] at hk
      obtain ⟨cs0, h0, rfl⟩ := hk
      obtain ⟨b, c, e2, lo, hi, h1, h2, h3, h4⟩ := hc.boxes k cs0 h0
      exact ⟨b, c, e2, lo, hi, by simp only [upd_ne _ _ e]; exact h1, h2, h3, RepS.dropB _ _ h4⟩
  · intro k b hb
    obtain ⟨e, hb⟩ := bk k b hb
    simp only [St.dropBox, upd_ne _ _ e, Option.isSome_map]
    exact hc.boxSome k b hb
  · exact { shIn := m.shIn, shFrom := m.shFrom, shOld := m.shOld, ownIn := m.ownIn, ownOne := m.ownOne, ownBox := fun g b base k hg hf hb => m.ownBox g b base k hg hf (bk k b hb).2,
            ownSh := m.ownSh, ownFrz := m.ownFrz, ownMine := m.ownMine, boxIn := fun k b hb => m.boxIn k b (bk k b hb).2, boxOne := fun k k' b h1 h2 => m.boxOne k k' b (bk k b h1).2 (bk k' b h2).2,
            boxSh := fun k b hb => m.boxSh k b (bk k b hb).2, boxMine := fun k b hb => m.boxMine k b (bk k b hb).2, kept := m.kept, size := m.size, os := m.os, tape := m.tape, output := m.output,
            inB := fun k b hb => by
              have e : k ≠ id := fun e => by have := X.inBig k b hb; omega
              simp only [upd_ne _ _ e]; exact m.inB k b hb }
/-- Slots that are looked at no more. -/
def St.keep (st : St) (ks : List Nat) : St := { st with s := fun t => if ks.contains t = true then st.s t else .undef }
theorem Conc.keep {X : Ent} {st : St} {C : Ctx} {a : Act} {w : World} (hc : Conc X st C a w) (ks : List Nat) : Conc X (st.keep ks) C a w where
  n := hc.n
  slots t := by
    simp only [St.keep]
    split
    · exact hc.slots t
    · trivial
  frg := by
    refine hc.frg.go (w' := w) (C' := C) ?_ rfl (fun _ hb => .inl hb) (fun _ hb => .inl hb) (fun _ _ _ => rfl) (Nat.le_refl _) rfl rfl rfl
    simp only [St.keep]
    split
    · exact .same fun _ _ h => h
    · exact ⟨fun _ => rfl, fun _ _ _ _ h => (by cases h), fun _ _ h => (by cases h), fun _ _ => trivial⟩
  boxes := hc.boxes
  boxSome := hc.boxSome
  mem := hc.mem
  cons := hc.cons
  made := hc.made
  tg := hc.tg
  tgInj := hc.tgInj
  tgMade := hc.tgMade
end Go.VS
namespace Go.VS
set_option linter.unusedVariables false
set_option linter.unusedSimpArgs false
set_option linter.unusedSectionVars false
open Go
variable {P : Program}
def setAt (sz k : Nat) (e : AV) (eo : Nat) (l : List AV) : List AV := if eo ≤ k then l.set (k - eo) e else l
mutual
def setA (g : Stamp) (sz k : Nat) (e : AV) : AV → AV
  | .sl (some (h, eo)) nb sz' l => if h = g then (if sz' = sz then .sl (some (h, eo)) nb sz' (setAt sz k e eo l) else .undef) else .sl (some (h, eo)) nb sz' l
  | .eptr (some (h, eo)) sz' l i off => if h = g then (if sz' = sz then .eptr (some (h, eo)) sz' (setAt sz k e eo l) i off else .undef) else .eptr (some (h, eo)) sz' l i off
  | .agg cs => .agg (setL g sz k e cs)
  | .tup cs => .tup (setL g sz k e cs)
  | .fn f cs => .fn f (setL g sz k e cs)
  | .hid v => .hid (setA g sz k e v)
  | v => v
def setL (g : Stamp) (sz k : Nat) (e : AV) : List AV → List AV
  | [] => []
  | c :: cs => setA g sz k e c :: setL g sz k e cs
end
theorem setA_hid (g : Stamp) (sz k : Nat) (e : AV) : ∀ v, isHid v = false → isHid (setA g sz k e v) = false := by
  intro v h
  unfold setA
  split
  · split
    · split <;> rfl
    · rfl
  · split
    · split <;> rfl
    · rfl
  all_goals first | rfl | exact h | cases h
theorem setA_gh (g : Stamp) (sz k : Nat) (e : AV) : ∀ v l s d t, setA g sz k e v = .ghost l s d t → v = .ghost l s d t := by
  intro v l s d t h
  unfold setA at h
  split at h
  · split at h
    · split at h <;> cases h
    · cases h
  · split at h
    · split at h <;> cases h
    · cases h
  all_goals first | exact h | cases h
theorem setA_si (g : Stamp) (sz k : Nat) (e : AV) : ∀ v b p, setA g sz k e v = .itp b p → v = .itp b p := by
  intro v b p h
  unfold setA at h
  split at h
  · split at h
    · split at h <;> cases h
    · cases h
  · split at h
    · split at h <;> cases h
    · cases h
  all_goals first | exact h | cases h
theorem setAt_length (sz k : Nat) (e : AV) (eo : Nat) (l : List AV) : (setAt sz k e eo l).length = l.length := by
  unfold setAt
  split <;> simp
def St.setE (st : St) (g : Stamp) (sz k : Nat) (e : AV) : St :=
  { st with s := fun t => setA g sz k e (st.s t), bx := fun id => (st.bx id).map (setL g sz k e) }
/-- A world in which a block's cells, from an offset on, have turned. -/
structure Wrote (w w' : World) (b o : Nat) (us : List Value) : Prop where
  other : ∀ b', b' ≠ b → w'.heap[b']? = w.heap[b']?
  at_ : ∀ (off j : Nat) (v : Value), w.cell? ⟨b, off + j, none⟩ = some v → w'.cell? ⟨b, off + j, none⟩ = if o ≤ off + j ∧ off + j < o + us.length then us[off + j - o]? else some v
  open_ : ∀ n, openBlock w b n → openBlock w' b n
theorem row_setAt {w w' : World} {C : Ctx} {b base o sz k eo : Nat} {us : List Value} {l : List AV} {vs : List Value} {e : AV} {u : Value} (W : Wrote w w' b o us) (hsh : ∀ k, C.Sh k → k ≠ b)
    (hu : us = u.cells.toList) (hs : u.cells.size = sz) (h1 : ∀ x ∈ u.cells.toList, x.oneCell' = true) (hr : RepF w' C.Sh e u) (ho : o = base + k * sz)
    (hc : cellsAt w b (base + eo * sz) vs) (hrow : RepRow w C.Sh sz l vs) : ∃ vs', cellsAt w' b (base + eo * sz) vs' ∧ RepRow w' C.Sh sz (setAt sz k e eo l) vs' := by
  have hrow' : RepRow w' C.Sh sz l vs := RepRow.keep (fun k hk => ⟨hk, W.other k (hsh k hk)⟩) sz l vs hrow
  have hlen := hrow.length
  have hul : us.length = sz := by rw [hu]; simpa using hs
  unfold setAt
  by_cases hle : eo ≤ k
  · rw [if_pos hle]
    by_cases hlt : k - eo < l.length
    · refine ⟨putAt vs ((k - eo) * sz) u.cells.toList, ?_, hrow'.set hlt hs h1 hr⟩
      have hfit : (k - eo) * sz + u.cells.toList.length ≤ vs.length := by
        rw [hlen, Array.length_toList, hs]
        have : (k - eo + 1) * sz ≤ l.length * sz := Nat.mul_le_mul_right _ hlt
        rw [Nat.add_mul, Nat.one_mul] at this; exact this
      have hk : base + k * sz = base + eo * sz + (k - eo) * sz := by
        rw [Nat.add_assoc, ← Nat.add_mul, Nat.add_sub_cancel' hle]
      intro j v hj
      rw [putAt_get hfit] at hj
      have hjlen : j < vs.length := by
        by_cases hin : (k - eo) * sz ≤ j ∧ j < (k - eo) * sz + u.cells.toList.length
        · omega
        · rw [if_neg hin] at hj; exact (List.getElem?_eq_some_iff.1 hj).1
      have hold : vs[j]? = some vs[j] := List.getElem?_eq_getElem hjlen
      rw [W.at_ _ _ _ (hc j _ hold)]
      rw [← hu] at hj
      by_cases hin : (k - eo) * sz ≤ j ∧ j < (k - eo) * sz + us.length
      · rw [if_pos hin] at hj
        rw [if_pos (by rw [ho, hk]; omega)]
        rw [show base + eo * sz + j - o = j - (k - eo) * sz by rw [ho, hk]; omega]
        exact hj
      · rw [if_neg hin] at hj
        rw [if_neg (by rw [ho, hk]; omega)]
        rw [hold] at hj; exact hj
    · refine ⟨vs, ?_, ?_⟩
      · intro j v hj
        have hjl := (List.getElem?_eq_some_iff.1 hj).1
        rw [W.at_ _ _ _ (hc j v hj), if_neg]
        rw [hlen] at hjl
        have h2 : l.length * sz ≤ (k - eo) * sz := Nat.mul_le_mul_right _ (by omega)
        have hk : base + k * sz = base + eo * sz + (k - eo) * sz := by
          rw [Nat.add_assoc, ← Nat.add_mul, Nat.add_sub_cancel' hle]
        rw [ho, hk]; omega
      · rw [List.set_eq_of_length_le (by omega)]; exact hrow'
  · rw [if_neg hle]
    refine ⟨vs, ?_, hrow'⟩
    intro j v hj
    rw [W.at_ _ _ _ (hc j v hj), if_neg]
    have h2 : (k + 1) * sz ≤ eo * sz := Nat.mul_le_mul_right _ (by omega)
    rw [Nat.add_mul, Nat.one_mul] at h2
    rw [ho, hul]; omega
section
variable {w w' : World} {C : Ctx} {g : Stamp} {b base o sz k : Nat} {us : List Value} {e : AV} {u : Value}
  (W : Wrote w w' b o us) (hg : C.own g = .live b base) (hone : ∀ h base', C.own h = .live b base' → h = g) (hsh : ∀ k, C.Sh k → k ≠ b)
  (hu : us = u.cells.toList) (hs : u.cells.size = sz) (h1 : ∀ x ∈ u.cells.toList, x.oneCell' = true) (hr : RepF w' C.Sh e u) (ho : o = base + k * sz)
include W hg hone hsh hu hs h1 hr ho
mutual
theorem Rep.setA : ∀ (a : AV) (v : Value), Rep w C a v → Rep w' C (VS.setA g sz k e a) v
  | .undef, _, _ => trivial
  | .ghost .., _, _ => trivial
  | .hid _, _, _ => trivial
  | .int .., _, h => h
  | .bool .., _, h => h
  | .str .., _, h => h
  | .sl none nb sz' l, v, h => RepF.keep (fun k hk => ⟨hk, W.other k (hsh k hk)⟩) _ v h
  | .sl (some (h, eo)) nb sz' l, v, hv => by
    simp only [VS.setA]
    by_cases e1 : h = g
    · rw [if_pos e1]
      subst e1
      by_cases e2 : sz' = sz
      · rw [if_pos e2]
        subst e2
        rcases hv with hv | ⟨h2, h3, h4⟩ | ⟨h0, b', base', off, cap, vs, h2, h2', h3, h4, h5, h6, h7⟩
        · exact .inl hv
        · refine .inr (.inl ⟨h2, ?_, h4⟩)
          subst h3; unfold setAt; split <;> rfl
        · rw [hg] at h2; cases h2
          by_cases hc0 : cap = 0
          · refine .inr (.inr ⟨h0, b, base, off, cap, vs, hg, h2', ?_, by rw [setAt_length]; exact h4, ?_, ?_, W.open_ _ h7⟩)
            · rw [setAt_length]; exact h3
            · have hl0 : l.length = 0 := by omega
              have := h6.length
              rw [hl0, Nat.zero_mul] at this
              rw [List.length_eq_zero_iff.1 this]
              intro j v hj; simp at hj
            · have hl0 : l = [] := List.length_eq_zero_iff.1 (by omega)
              subst hl0
              have : setAt sz' k e eo [] = [] := by unfold setAt; split <;> rfl
              rw [this]
              exact h6
          · obtain rfl : off = base + eo * sz' := h2'.resolve_right hc0
            obtain ⟨vs', h8, h9⟩ := row_setAt W hsh hu hs h1 hr ho h5 h6
            exact .inr (.inr ⟨h0, b, base, _, cap, vs', hg, .inl rfl, by rw [setAt_length]; exact h3, by rw [setAt_length]; exact h4, h8, h9, W.open_ _ h7⟩)
      · rw [if_neg e2]; trivial
    · rw [if_neg e1]
      rcases hv with hv | hv | ⟨h0, b', base', off, cap, vs, h2, h2', h3, h4, h5, h6, h7⟩
      · exact .inl hv
      · exact .inr (.inl hv)
      · have hne : b' ≠ b := fun x => e1 (hone h base' (x ▸ h2))
        exact .inr (.inr ⟨h0, b', base', off, cap, vs, h2, h2', h3, h4, h5.keep (W.other _ hne), RepRow.keep (fun k hk => ⟨hk, W.other k (hsh k hk)⟩) sz' l vs h6, h7.keep (W.other _ hne)⟩)
  | .ptr .., _, h => h
  | .nilp, _, h => h
  | .eptr none sz' l i off, v, h => RepF.keep (fun k hk => ⟨hk, W.other k (hsh k hk)⟩) _ v h
  | .eptr (some (h, eo)) sz' l i off, v, hv => by
    simp only [VS.setA]
    by_cases e1 : h = g
    · rw [if_pos e1]
      subst e1
      by_cases e2 : sz' = sz
      · rw [if_pos e2]
        subst e2
        rcases hv with hv | ⟨b', base', vs, h2, h3, h4, h4', h5, h6, h7⟩
        · exact .inl hv
        · rw [hg] at h2; cases h2
          obtain ⟨vs', h8, h9⟩ := row_setAt W hsh hu hs h1 hr ho h5 h6
          exact .inr ⟨b, base, vs', hg, h3, by rw [setAt_length]; exact h4, h4', h8, h9, by rw [setAt_length]; exact W.open_ _ h7⟩
      · rw [if_neg e2]; trivial
    · rw [if_neg e1]
      rcases hv with hv | ⟨b', base', vs, h2, h3, h4, h4', h5, h6, h7⟩
      · exact .inl hv
      · have hne : b' ≠ b := fun x => e1 (hone h base' (x ▸ h2))
        exact .inr ⟨b', base', vs, h2, h3, h4, h4', h5.keep (W.other _ hne), RepRow.keep (fun k hk => ⟨hk, W.other k (hsh k hk)⟩) sz' l vs h6, h7.keep (W.other _ hne)⟩
  | .agg cs, v, h => by
    obtain ⟨vs, h2, h3⟩ := h
    exact ⟨vs, h2, RepS.setL cs vs h3⟩
  | .tup cs, v, h => by
    obtain ⟨vs, h2, h3⟩ := h
    exact ⟨vs, h2, RepSU.setL cs vs h3⟩
  | .fn f cs, v, h => by
    obtain ⟨vs, h2, h3⟩ := h
    exact ⟨vs, h2, RepS.setL cs vs h3⟩
  | .nilf, _, h => h
  | .yl _, _, h => h
  | .itp .., _, h => h
  | .bsl .., _, h => h
theorem RepS.setL : ∀ (l : List AV) (vs : List Value), RepS w C l vs → RepS w' C (VS.setL g sz k e l) vs
  | [], _, h => h
  | c :: cs, _, h => by
    obtain ⟨v, r, h2, h0, h3, h4⟩ := h
    exact ⟨v, r, h2, h0, Rep.setA c v h3, RepS.setL cs r h4⟩
theorem RepSU.setL : ∀ (l : List AV) (vs : List Value), RepSU w C l vs → RepSU w' C (VS.setL g sz k e l) vs
  | [], _, h => h
  | c :: cs, _, h => by
    obtain ⟨v, r, h2, h3, h4⟩ := h
    exact ⟨v, r, h2, Rep.setA c v h3, RepSU.setL cs r h4⟩
end
end
end Go.VS
namespace Go.VS
set_option linter.unusedVariables false
set_option linter.unusedSimpArgs false
set_option linter.unusedSectionVars false
open Go
variable {P : Program}
/-- An element is stored, whole or in part. -/
def storeEl (P : Program) (st : St) (o : Oper) : Option St :=
  match o.op with
  | .store T a x =>
    match st.ev P 0 a with
    | .eptr (some (g, eo)) sz l i off =>
      if P.cellsOf T = sz then
        need ((P.info? T).isSome = true ∧ off = 0 ∧ st.cons g = false ∧ st.frz g = false ∧ st.solid (st.ev P T x) = true ∧ (st.ev P T x).cells.length = P.cellsOf T ∧ P.cellsOf T = sz ∧
            frozable (st.ev P T x) = true ∧ stampsOf (st.ev P T x) = [])
          (some (st.setE g sz (eo + i) (froz (st.ev P T x))))
      else
        (l[i]?).bind fun e =>
        need ((P.info? T).isSome = true ∧ e.cells.length = sz ∧ off + P.cellsOf T ≤ sz ∧ st.cons g = false ∧ st.frz g = false ∧ st.solid (st.ev P T x) = true ∧ (st.ev P T x).cells.length = P.cellsOf T ∧
            (froz (st.ev P T x)).cells.length = P.cellsOf T ∧ frozable (st.ev P T x) = true ∧ stampsOf (st.ev P T x) = [])
          (some (st.setE g sz (eo + i) (.agg (e.cells.take off ++ ((froz (st.ev P T x)).cells ++ e.cells.drop (off + P.cellsOf T))))))
    | _ => none
  | _ => none
theorem wrote_setCells {w : World} {b o : Nat} {us : List Value} {c : Array Value} {e : TypeId} {fr : Nat × Nat} (hb : w.heap[b]? = some (.cells c e fr)) (hl : o + us.length ≤ c.size) :
    Wrote w (w.setCells b o us) b o us where
  other b' hb' := heap_setCells_ne _ _ _ _ hb'
  at_ off j v hv := by
    have h2 := heap_setCells_at us o w c e fr hb hl
    simp only [World.cell?, hb] at hv
    simp only [World.cell?, h2]
    simp only [Option.isSome_none, Bool.false_eq_true, if_false] at hv ⊢
    rw [List.getElem?_toArray, putAt_get (by simpa using hl)]
    split
    · rfl
    · simpa using hv
  open_ n h := by
    obtain ⟨c', e', lo, hi, h1, h2, h3, h4⟩ := h
    rw [hb] at h1; cases h1
    refine ⟨_, e, lo, hi, heap_setCells_at us o w c e (lo, hi) hb hl, ?_, ?_, h4⟩
    · simp only [List.size_toArray]
      rw [putAt_length (by simpa using hl), Array.length_toList]; exact h2
    · intro k hk
      simp only [List.size_toArray] at hk
      rw [putAt_length (by simpa using hl), Array.length_toList] at hk
      exact h3 k hk
theorem RepL.append {w : World} {Sh : Nat → Prop} : ∀ {l l' : List AV} {vs vs' : List Value}, RepL w Sh l vs → RepL w Sh l' vs' → RepL w Sh (l ++ l') (vs ++ vs')
  | [], _, _, _, h, h' => by simp only [RepL] at h; subst h; exact h'
  | c :: cs, _, _, _, h, h' => by
    obtain ⟨v, r, rfl, h1, h2, h3⟩ := h
    exact ⟨v, r ++ _, rfl, h1, h2, RepL.append h3 h'⟩
theorem RepL.one {w : World} {Sh : Nat → Prop} : ∀ {l : List AV} {vs : List Value}, RepL w Sh l vs → ∀ u ∈ vs, u.oneCell' = true
  | [], _, h, u, hu => by simp only [RepL] at h; subst h; simp at hu
  | c :: cs, _, h, u, hu => by
    obtain ⟨v, r, rfl, h1, h2, h3⟩ := h
    rcases List.mem_cons.1 hu with rfl | hu
    · exact h1
    · exact RepL.one h3 u hu
/-- A part of a row turned: the row, as it is with the part. -/
theorem Wrote.part {w w' : World} {b o off : Nat} {us ux : List Value} (W : Wrote w w' b (o + off) ux) (hold : cellsAt w b o us) (hf : off + ux.length ≤ us.length) : Wrote w w' b o (us.take off ++ (ux ++ us.drop (off + ux.length))) where
  other := W.other
  open_ := W.open_
  at_ o1 j v hv := by
    have h := W.at_ o1 j v hv
    have hlen : (us.take off ++ (ux ++ us.drop (off + ux.length))).length = us.length := by
      simp only [List.length_append, List.length_take, List.length_drop]; omega
    rw [h, hlen]
    by_cases hin : o ≤ o1 + j ∧ o1 + j < o + us.length
    · rw [if_pos hin]
      obtain ⟨t, ht⟩ : ∃ t, o1 + j = o + t := ⟨o1 + j - o, by omega⟩
      have ht2 : t < us.length := by omega
      rw [ht] at hv ⊢
      have hu : us[t]? = some v := by
        have h1 := hold t _ (List.getElem?_eq_getElem ht2)
        rw [hv] at h1
        rw [List.getElem?_eq_getElem ht2, Option.some.inj h1]
      rw [show o + t - o = t by omega]
      by_cases hw : o + off ≤ o + t ∧ o + t < o + off + ux.length
      · rw [if_pos hw, List.getElem?_append_right (by rw [List.length_take]; omega), List.length_take, Nat.min_eq_left (by omega), List.getElem?_append_left (by omega)]
        congr 1; omega
      · rw [if_neg hw]
        by_cases hlt : t < off
        · rw [List.getElem?_append_left (by rw [List.length_take]; omega), List.getElem?_take, if_pos hlt, hu]
        · rw [List.getElem?_append_right (by rw [List.length_take]; omega), List.length_take, Nat.min_eq_left (by omega), List.getElem?_append_right (by omega), List.getElem?_drop, ← hu]
          congr 1; omega
    · rw [if_neg hin, if_neg (by omega)]
theorem step_storeEl {X : Ent} {st st' : St} {o : Oper} (h : storeEl P st o = some st') (hd : o.dst = none) : OpStep P X st o st' :=
  OpStep.skip fun C a w hc => by
    unfold storeEl at h
    split at h
    · rename_i T ad x ho
      split at h
      · rename_i g eo sz l i off hp
        split at h
        · obtain ⟨⟨hI, hoff, hcons, hfrz, hs, hl, hsz, hfz, hst⟩, h''⟩ := need_some h
          cases h''
          subst hoff
          have hptr := hc.ev P 0 ad
          rw [hp] at hptr
          rcases hptr with hdead | ⟨b, base, vs, hg, hptr, hi, hlt, hcell, hrow, hopen⟩
          · have := (hc.cons g).2 hdead; rw [hcons] at this; cases this
          · have hev := hc.ev P T x
            have hr := rep_solid hc.cons hs hev
            have hlen := hr.length
            rw [Array.length_toList] at hlen
            obtain ⟨c, e, lo, hi', h2, hle, h3, _⟩ := hopen
            have m := hc.mem
            have hbsh : ∀ k, C.Sh k → k ≠ b := fun k hk e => m.ownSh g b base hg hfrz (e ▸ hk)
            have hbbox : ∀ id, C.box id ≠ some b := fun id e => m.ownBox g b base id hg hfrz e
            have hone : ∀ h base', C.own h = .live b base' → h = g := fun h base' hh => (m.ownOne g h b base base' hg hh hfrz).symm
            have hfz' : RepF w C.Sh (froz (st.ev P T x)) (a.eval x) := froz_ok _ _ hfz (by rw [hst]; intro g hg; cases hg) hev
            have hfit : base + eo * sz + i * sz + (a.eval x).cells.size ≤ c.size := by
              have : (i + 1) * sz ≤ l.length * sz := Nat.mul_le_mul_right _ hi
              rw [Nat.add_mul, Nat.one_mul] at this
              omega
            have hpos : base + eo * sz + i * sz = base + (eo + i) * sz := by rw [Nat.add_mul]; omega
            have W := wrote_setCells (us := (a.eval x).cells.toList) (o := base + eo * sz + i * sz) h2 (by simpa using hfit)
            have hfz2 : RepF (w.setCells b (base + eo * sz + i * sz) (a.eval x).cells.toList) C.Sh (froz (st.ev P T x)) (a.eval x) := RepF.keep (fun k hk => ⟨hk, W.other k (hbsh k hk)⟩) _ _ hfz'
            refine ⟨w.setCells b (base + eo * sz + i * sz) (a.eval x).cells.toList, C, ?_, ?_⟩
            · have hrun := run_storeAt (P := P) hI h2 h3 (v := a.eval x) (off := base + eo * sz + i * sz) (by omega) hfit (fun u hu => hr.one u hu)
              rw [Nat.add_zero] at hptr
              simp [execOp, ho, hptr, hrun]
            · rw [hd]
              have hsa := @Rep.setA w _ C g b base (base + eo * sz + i * sz) sz (eo + i) _ (froz (st.ev P T x)) (a.eval x) W hg hone hbsh rfl (by omega) (fun u hu => hr.one u hu) hfz2 hpos
              have hsl := @RepS.setL w _ C g b base (base + eo * sz + i * sz) sz (eo + i) _ (froz (st.ev P T x)) (a.eval x) W hg hone hbsh rfl (by omega) (fun u hu => hr.one u hu) hfz2 hpos
              exact { n := hc.n, slots := fun t => hsa _ _ (hc.slots t), frg := by
                        obtain ⟨k1, k2, k3⟩ := setCells_os (b := b) (a.eval x).cells.toList (base + eo * sz + i * sz) w
                        exact hc.frg.go (.map hsa (setA_hid _ _ _ _) (setA_gh _ _ _ _) (setA_si _ _ _ _) (fun _ => rfl) rfl (fun _ _ => ⟨_, rfl⟩)) rfl (fun _ hb => .inl hb) (fun _ hb => .inl hb) (fun k _ hk => heap_setCells_ne _ _ _ _ fun e => by
                          subst e
                          rcases hk with hk | hk
                          · exact hc.frg.out k (.inl ⟨g, base, hg, hfrz⟩) hk
                          · exact hk (m.ownMine g k base hg hfrz)) (by rw [heap_setCells_size]; exact Nat.le_refl _) k1 k2 k3,
                      boxes := fun id cs hid => by
                        simp only [St.setE, Option.map_eq_some_iff] at hid
                        obtain ⟨cs0, h0, rfl⟩ := hid
                        obtain ⟨b', c', e', lo', hi2, k1, k2, k3, k4⟩ := hc.boxes id cs0 h0
                        have hne : b' ≠ b := fun x => hbbox id (x ▸ k1)
                        exact ⟨b', c', e', lo', hi2, k1, (W.other _ hne).trans k2, k3, hsl _ _ k4⟩,
                      boxSome := fun id b' hb' => by
                        simp only [St.setE, Option.isSome_map]
                        exact hc.boxSome id b' hb',
                      mem := m.write (m.ownMine g b base hg hfrz), cons := hc.cons, made := hc.made, tg := hc.tg, tgInj := hc.tgInj, tgMade := hc.tgMade }
        · obtain ⟨el, hel, h⟩ := Option.bind_eq_some_iff.1 h
          obtain ⟨⟨hI, hec, hof, hcons, hfrz, hs, hl, hfl, hfz, hst⟩, h''⟩ := need_some h
          cases h''
          have hptr := hc.ev P 0 ad
          rw [hp] at hptr
          rcases hptr with hdead | ⟨b, base, vs, hg, hptr, hi, hlt, hcell, hrow, hopen⟩
          · have := (hc.cons g).2 hdead; rw [hcons] at this; cases this
          · have hev := hc.ev P T x
            have hr := rep_solid hc.cons hs hev
            have hlen := hr.length
            rw [Array.length_toList] at hlen
            obtain ⟨c, e, lo, hi', h2, hle, h3, _⟩ := hopen
            have m := hc.mem
            have hbsh : ∀ k, C.Sh k → k ≠ b := fun k hk e => m.ownSh g b base hg hfrz (e ▸ hk)
            have hbbox : ∀ id, C.box id ≠ some b := fun id e => m.ownBox g b base id hg hfrz e
            have hone : ∀ h base', C.own h = .live b base' → h = g := fun h base' hh => (m.ownOne g h b base base' hg hh hfrz).symm
            have hfz' : RepF w C.Sh (froz (st.ev P T x)) (a.eval x) := froz_ok _ _ hfz (by rw [hst]; intro g hg; cases hg) hev
            have hux := RepF.cells hfz' (by omega) (fun u hu => hr.one u hu)
            obtain ⟨v, v1, v2, v3, v4⟩ := hrow.get hel
            have hus := RepF.cells v4 (by omega) v3
            have hul : v.cells.toList.length = sz := by rw [Array.length_toList]; exact v2
            have huxl : (a.eval x).cells.toList.length = P.cellsOf T := by rw [Array.length_toList]; omega
            have hpos : base + eo * sz + i * sz = base + (eo + i) * sz := by rw [Nat.add_mul]; omega
            have hfit : base + eo * sz + i * sz + off + (a.eval x).cells.size ≤ c.size := by
              have : (i + 1) * sz ≤ l.length * sz := Nat.mul_le_mul_right _ hi
              rw [Nat.add_mul, Nat.one_mul] at this
              omega
            have hold : cellsAt w b (base + eo * sz + i * sz) v.cells.toList := by
              rw [v1]
              exact (hcell.drop (i * sz)).take sz
            have W1 := wrote_setCells (us := (a.eval x).cells.toList) (o := base + eo * sz + i * sz + off) h2 (by simpa using hfit)
            have W := W1.part hold (by rw [hul, huxl]; exact hof)
            rw [huxl] at W
            have hcs : RepL w C.Sh (el.cells.take off ++ ((froz (st.ev P T x)).cells ++ el.cells.drop (off + P.cellsOf T))) (v.cells.toList.take off ++ ((a.eval x).cells.toList ++ v.cells.toList.drop (off + P.cellsOf T))) :=
              (hus.take off).append (hux.append (hus.drop _))
            generalize hU : v.cells.toList.take off ++ ((a.eval x).cells.toList ++ v.cells.toList.drop (off + P.cellsOf T)) = U at *
            have hUl : U.length = sz := by
              rw [← hU]; simp only [List.length_append, List.length_take, List.length_drop]; omega
            have hfz2 : RepF (w.setCells b (base + eo * sz + i * sz + off) (a.eval x).cells.toList) C.Sh (.agg (el.cells.take off ++ ((froz (st.ev P T x)).cells ++ el.cells.drop (off + P.cellsOf T)))) (.agg U.toArray) :=
              ⟨U, rfl, RepL.keep (fun k hk => ⟨hk, W1.other k (hbsh k hk)⟩) _ _ hcs⟩
            refine ⟨w.setCells b (base + eo * sz + i * sz + off) (a.eval x).cells.toList, C, ?_, ?_⟩
            · have hrun := run_storeAt (P := P) hI h2 h3 (v := a.eval x) (off := base + eo * sz + i * sz + off) (by omega) hfit (fun u hu => hr.one u hu)
              simp [execOp, ho, hptr, hrun]
            · rw [hd]
              have hsa := @Rep.setA w _ C g b base (base + eo * sz + i * sz) sz (eo + i) _ _ (.agg U.toArray) W hg hone hbsh (by simp [Value.cells]) (by simpa [Value.cells] using hUl) (fun u hu => hcs.one u (by simpa [Value.cells] using hu)) hfz2 hpos
              have hsl := @RepS.setL w _ C g b base (base + eo * sz + i * sz) sz (eo + i) _ _ (.agg U.toArray) W hg hone hbsh (by simp [Value.cells]) (by simpa [Value.cells] using hUl) (fun u hu => hcs.one u (by simpa [Value.cells] using hu)) hfz2 hpos
              exact { n := hc.n, slots := fun t => hsa _ _ (hc.slots t), frg := by
                        obtain ⟨k1, k2, k3⟩ := setCells_os (b := b) (a.eval x).cells.toList (base + eo * sz + i * sz + off) w
                        exact hc.frg.go (.map hsa (setA_hid _ _ _ _) (setA_gh _ _ _ _) (setA_si _ _ _ _) (fun _ => rfl) rfl (fun _ _ => ⟨_, rfl⟩)) rfl (fun _ hb => .inl hb) (fun _ hb => .inl hb) (fun k _ hk => heap_setCells_ne _ _ _ _ fun e => by
                          subst e
                          rcases hk with hk | hk
                          · exact hc.frg.out k (.inl ⟨g, base, hg, hfrz⟩) hk
                          · exact hk (m.ownMine g k base hg hfrz)) (by rw [heap_setCells_size]; exact Nat.le_refl _) k1 k2 k3,
                      boxes := fun id cs hid => by
                        simp only [St.setE, Option.map_eq_some_iff] at hid
                        obtain ⟨cs0, h0, rfl⟩ := hid
                        obtain ⟨b', c', e', lo', hi2, k1, k2, k3, k4⟩ := hc.boxes id cs0 h0
                        have hne : b' ≠ b := fun x => hbbox id (x ▸ k1)
                        exact ⟨b', c', e', lo', hi2, k1, (W.other _ hne).trans k2, k3, hsl _ _ k4⟩,
                      boxSome := fun id b' hb' => by
                        simp only [St.setE, Option.isSome_map]
                        exact hc.boxSome id b' hb',
                      mem := m.write (m.ownMine g b base hg hfrz), cons := hc.cons, made := hc.made, tg := hc.tg, tgInj := hc.tgInj, tgMade := hc.tgMade }
      · cases h
    · cases h
end Go.VS
