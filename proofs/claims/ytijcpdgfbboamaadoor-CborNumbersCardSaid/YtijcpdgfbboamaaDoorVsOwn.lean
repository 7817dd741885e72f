/- Part of a framework that states what Go functions answer on values as data; it holds for every program of the model. -/
import Derived.Test.YtijcpdgfbboamaaDoorVsMem
import Derived.Laws.MakeOwn
namespace Go.VS
set_option linter.unusedVariables false
set_option linter.unusedSimpArgs false
set_option linter.unusedSectionVars false
open Go
variable {P : Program}

/-! ### Freezing -/

mutual
def stampsOf : AV → List Stamp
  | .sl (some (g, _)) _ _ _ => [g]
  | .agg cs => stampsL cs
  | .fn _ cs => stampsL cs
  | _ => []
def stampsL : List AV → List Stamp
  | [] => []
  | c :: cs => stampsOf c ++ stampsL cs
end
mutual
def froz : AV → AV
  | .sl _ nb sz l => .sl none nb sz l
  | .agg cs => .agg (frozL cs)
  | .fn f cs => .fn f (frozL cs)
  | v => v
def frozL : List AV → List AV
  | [] => []
  | c :: cs => froz c :: frozL cs
end
mutual
def frozable : AV → Bool
  | .ptr .. => false
  | .bsl .. => false
  | .eptr .. => false
  | .tup _ => false
  | .agg cs => frozableL cs
  | .fn _ cs => frozableL cs
  | _ => true
def frozableL : List AV → Bool
  | [] => true
  | c :: cs => frozable c && frozableL cs
end

mutual
theorem froz_ok {w : World} {C : Ctx} : ∀ (a : AV) (v : Value), frozable a = true → (∀ g ∈ stampsOf a, C.own g ≠ .dead ∧ ∀ b base, C.own g = .live b base → C.Sh b) → Rep w C a v → RepF w C.Sh (froz a) v
  | .undef, _, _, _, _ => trivial
  | .int .., _, _, _, h => h
  | .bool .., _, _, _, h => h
  | .str .., _, _, _, h => h
  | .sl none nb sz l, v, _, _, h => h
  | .sl (some (g, eo)) nb sz l, v, _, hg, h => by
    obtain ⟨hd, hs⟩ := hg g (by simp [stampsOf])
    rcases h with h | h | ⟨h0, b, base, off, cap, vs, h1, _, h2, h3, h4, h5, _⟩
    · exact absurd h hd
    · exact .inl h
    · exact .inr ⟨h0, b, off, cap, vs, none, h2, h3, .inr ⟨rfl, hs b base h1, h4⟩, h5⟩
  | .ptr .., _, hf, _, _ => by simp [frozable] at hf
  | .nilp, _, _, _, h => h
  | .eptr .., _, hf, _, _ => by simp [frozable] at hf
  | .agg cs, v, hf, hg, h => by
    obtain ⟨vs, h1, h2⟩ := h
    exact ⟨vs, h1, frozL_ok cs vs hf hg h2⟩
  | .tup cs, _, hf, _, _ => by simp [frozable] at hf
  | .fn f cs, v, hf, hg, h => by
    obtain ⟨vs, h1, h2⟩ := h
    exact ⟨vs, h1, frozL_ok cs vs hf hg h2⟩
  | .nilf, _, _, _, h => h
  | .bsl .., _, hf, _, _ => by simp [frozable] at hf
theorem frozL_ok {w : World} {C : Ctx} : ∀ (l : List AV) (vs : List Value), frozableL l = true → (∀ g ∈ stampsL l, C.own g ≠ .dead ∧ ∀ b base, C.own g = .live b base → C.Sh b) → RepS w C l vs → RepL w C.Sh (frozL l) vs
  | [], _, _, _, h => h
  | c :: cs, _, hf, hg, h => by
    obtain ⟨v, r, h1, h0, h2, h3⟩ := h
    simp only [frozableL, Bool.and_eq_true] at hf
    exact ⟨v, r, h1, h0, froz_ok c v hf.1 (fun g hg' => hg g (by simp [stampsL, hg'])) h2, frozL_ok cs r hf.2 (fun g hg' => hg g (by simp [stampsL, hg'])) h3⟩
end

def St.freezeL (st : St) : List Stamp → St
  | [] => st
  | g :: gs => ({ st with frz := updS st.frz g true } : St).freezeL gs

theorem freezeL_same : ∀ (gs : List Stamp) (st : St), (st.freezeL gs).s = st.s ∧ (st.freezeL gs).bx = st.bx ∧ (st.freezeL gs).cons = st.cons ∧ (st.freezeL gs).made = st.made ∧ (st.freezeL gs).res = st.res
  | [], _ => ⟨rfl, rfl, rfl, rfl, rfl⟩
  | g :: gs, st => freezeL_same gs _

theorem freezeL_frz : ∀ (gs : List Stamp) (st : St) (x : Stamp), (st.freezeL gs).frz x = false → st.frz x = false ∧ x ∉ gs
  | [], _, _, h => ⟨h, by simp⟩
  | g :: gs, st, x, h => by
    obtain ⟨h1, h2⟩ := freezeL_frz gs _ x h
    simp only [updS] at h1
    split at h1
    · cases h1
    · rename_i e
      exact ⟨h1, by simp [e, h2]⟩

theorem Conc.freezeL {X : Ent} {a : Act} {w : World} : ∀ (gs : List Stamp) {st : St} {C : Ctx}, Conc X st C a w → (∀ g ∈ gs, st.cons g = false) →
    ∃ C', Conc X (st.freezeL gs) C' a w ∧ C.To w w C' ∧ C'.own = C.own ∧ C'.box = C.box ∧ (∀ b, C.Sh b → C'.Sh b) ∧ ∀ g ∈ gs, ∀ b base, C.own g = .live b base → C'.Sh b
  | [], st, C, h, _ => ⟨C, h, ⟨fun _ hb => ⟨hb, rfl⟩, fun _ _ hb => hb, fun _ => .inr (.inr ⟨rfl, fun _ _ _ => rfl⟩)⟩, rfl, rfl, fun _ h => h, by simp⟩
  | g :: gs, st, C, h, hg => by
    obtain ⟨C1, h1, t1, o1, b1, s1⟩ := h.freeze g (hg g (by simp))
    obtain ⟨C2, h2, t2, o2, b2, m2, s2⟩ := Conc.freezeL gs h1 (fun x hx => hg x (by simp [hx]))
    refine ⟨C2, h2, ⟨fun b hb => ⟨(t2.sh b (t1.sh b hb).1).1, rfl⟩, fun id b hb => t2.box id b (t1.box id b hb), fun x => .inr (.inr ⟨by rw [o2, o1], fun _ _ _ => rfl⟩)⟩,
      o2.trans o1, b2.trans b1, fun b hb => m2 b (t1.sh b hb).1, ?_⟩
    intro x hx b base hb
    rcases List.mem_cons.1 hx with rfl | hx
    · exact m2 b (s1 b base hb)
    · exact s2 x hx b base (by rw [o1]; exact hb)

/-! ### A new name -/

def St.tname (st : St) (g : Stamp) : Stamp := if g.1 = 1 then (st.res g.2).getD (0, g.2) else g

/-- A block that is new gets a name. -/
def St.mkNew (st : St) (d : Nat) : St :=
  { st with cons := updS st.cons (0, d) true, made := upd st.made d true, res := upd st.res d (some (0, d)) }
def St.canNew (st : St) (d : Nat) : Bool := !st.made d && !st.frz (1, d) && !st.cons (0, d) && !st.cons (1, d)

theorem Conc.newBlock {X : Ent} {st : St} {C : Ctx} {a : Act} {w : World} (h : Conc X st C a w) {d : Nat} (hc : st.canNew d = true) (c : Array Value) (e : TypeId) :
    ∃ C', Conc X (st.mkNew d) C' a (w.alloc (.cells c e)) ∧ C.To w (w.alloc (.cells c e)) C' ∧ C'.own (1, d) = .live w.heap.size 0 ∧ C'.Sh = C.Sh := by
  simp only [St.canNew, Bool.and_eq_true, Bool.not_eq_true'] at hc
  obtain ⟨⟨⟨c1, c2⟩, c3⟩, c4⟩ := hc
  have h1 := h.kill (0, d) (by simp)
  have h2 := h1.alloc (.cells c e)
  have m := h.mem
  have notgt : ∀ k, st.cons (1, k) = false → st.res k = some (0, d) → False := by
    intro k _ hk
    have := (h.tg k _ hk).1
    rw [c3] at this; cases this
  have h3 := h2.ownNew (d := d) (b := w.heap.size) (base := 0) (t0 := (0, d)) (by simp) (.inl m.size) c1 c2 (fun hs => by have := m.shIn _ hs; omega)
    (fun id hb => by have := m.boxIn id _ hb; omega)
    (fun g bs hg => by
      simp only [updO] at hg
      split at hg
      · cases hg
      · have := m.ownIn g _ _ hg; omega)
    (by simp [updS]) (by simp)
    (fun k hk hr => by
      simp only [updS] at hk
      split at hk
      · cases hk
      · exact notgt k hk hr)
  refine ⟨_, h3, ⟨fun b hb => ⟨hb, heap_alloc_ne (m.shIn b hb)⟩, fun _ _ hb => hb, fun g => ?_⟩, by simp [updO], rfl⟩
  by_cases e1 : g = (1, d)
  · subst e1
    left
    cases e : C.own (1, d) with
    | none => rfl
    | dead => have := h.made d (by rw [e]; simp); rw [c1] at this; cases this
    | live b base => have := h.made d (by rw [e]; simp); rw [c1] at this; cases this
  · by_cases e2 : g = (0, d)
    · subst e2; right; left; simp [updO]
    · right; right
      exact ⟨by simp [updO, e1, e2], fun b base hb => heap_alloc_ne (m.ownIn g b base hb)⟩

theorem cellsAt_new (w : World) (c : List Value) (e : TypeId) : cellsAt (w.alloc (.cells c.toArray e)) w.heap.size 0 c := by
  intro j v hj
  simp only [World.cell?, heap_alloc_new, Nat.zero_add]
  simpa using hj

theorem cellsAt_new_left (w : World) (c r : List Value) (e : TypeId) : cellsAt (w.alloc (.cells (c ++ r).toArray e)) w.heap.size 0 c := by
  intro j v hj
  have := cellsAt_new w (c ++ r) e j v (by rw [List.getElem?_append_left (List.getElem?_eq_some_iff.1 hj).1]; exact hj)
  exact this

theorem rep_new {w : World} {C C' : Ctx} {d : Nat} {sz cap : Nat} {l : List AV} {c r : List Value} {e : TypeId} (t : C.To w (w.alloc (.cells (c ++ r).toArray e)) C') (ho : C'.own (1, d) = .live w.heap.size 0)
    (hr : RepRow w C.Sh sz l c) (hcap : l.length ≤ cap) (hlen : c.length + r.length = cap * sz) :
    Rep (w.alloc (.cells (c ++ r).toArray e)) C' (.sl (some ((1, d), 0)) false sz l) (.slice (some ⟨w.heap.size, 0, none⟩) l.length cap) := by
  refine .inr (.inr ⟨rfl, w.heap.size, 0, 0, cap, c, ho, .inl (by simp), rfl, hcap, cellsAt_new_left w c r e, RepRow.keep t.sh sz l c hr, ?_⟩)
  refine ⟨(c ++ r).toArray, e, 0, 0, heap_alloc_new _ _, ?_, fun o _ => by omega, Nat.le_refl _⟩
  simp only [Nat.zero_add, List.size_toArray, List.length_append]
  omega

/-! ### make -/

theorem zeroRow {T : TypeId} {cs : List AV} (hz : zeroAV P T = some cs) : True := trivial

/-- The value that cells make. -/
def mkElem (P : Program) (E : TypeId) (cs : List AV) : Option AV :=
  if P.isAggT E = true then some (.agg cs) else
    match cs with
    | [c] => some c
    | _ => none

end Go.VS
