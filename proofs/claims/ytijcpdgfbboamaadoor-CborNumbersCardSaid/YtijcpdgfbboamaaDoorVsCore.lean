/- Part of a framework that states what Go functions answer on values as data; it holds for every program of the model. -/
import Derived.WalkKit
import Derived.Below
import Derived.OwnWalk
namespace Go.VS
set_option linter.unusedVariables false
set_option linter.unusedSimpArgs false
set_option linter.unusedSectionVars false
open Go

/-- A name of memory that one slice owns: (0, slot), or another space's. -/
abbrev Stamp := Nat × Nat

/-- Values as data: slices with what they hold. -/
inductive AV where
  | undef
  | int (k : IntKind) (n : Int)
  | bool (b : Bool)
  | str (l : List UInt8)
  | sl (o : Option (Stamp × Nat)) (nb : Bool) (sz : Nat) (l : List AV)
  | ptr (id off : Nat)
  | nilp
  | eptr (o : Option (Stamp × Nat)) (sz : Nat) (l : List AV) (i off : Nat)
  | agg (cs : List AV)
  | tup (vs : List AV)
  | fn (f : FuncId) (cap : List AV)
  | nilf
  | bsl (id off len cap : Nat)
  deriving Inhabited

def AV.cells : AV → List AV
  | .agg cs => cs
  | v => [v]

/-- Cells of a block from an offset on. -/
def cellsAt (w : World) (b off : Nat) (vs : List Value) : Prop :=
  ∀ (j : Nat) (v : Value), vs[j]? = some v → w.cell? ⟨b, off + j, none⟩ = some v

mutual
/-- What is shared: it lies in blocks that nobody writes any more. -/
def RepF (w : World) (Sh : Nat → Prop) : AV → Value → Prop
  | .undef, _ => True
  | .int k n, v => v = .int k n
  | .bool b, v => v = .bool b
  | .str l, v => v = .string ⟨l.toArray⟩
  | .sl none nb sz l, v => (nb = true ∧ l = [] ∧ v = .slice none 0 0) ∨
      (nb = false ∧ ∃ b off cap vs sp, v = .slice (some ⟨b, off, sp⟩) l.length cap ∧ l.length ≤ cap ∧ (cap = 0 ∨ (sp = none ∧ Sh b ∧ cellsAt w b off vs)) ∧ RepRow w Sh sz l vs)
  | .nilp, v => v = .pointer none
  | .eptr none sz l i off, v => ∃ b o vs, v = .pointer (some ⟨b, o + i * sz + off, none⟩) ∧ i < l.length ∧ off < sz ∧ Sh b ∧ cellsAt w b o vs ∧ RepRow w Sh sz l vs
  | .agg cs, v => ∃ vs : List Value, v = .agg vs.toArray ∧ RepL w Sh cs vs
  | .tup cs, v => ∃ vs : List Value, v = .tuple vs.toArray ∧ RepLU w Sh cs vs
  | .fn f cap, v => ∃ vs : List Value, v = .func (.func f) #[] vs.toArray ∧ RepL w Sh cap vs
  | .nilf, v => v = .nilFunc
  | _, _ => False
def RepL (w : World) (Sh : Nat → Prop) : List AV → List Value → Prop
  | [], vs => vs = []
  | c :: cs, vs => ∃ v r, vs = v :: r ∧ v.oneCell' = true ∧ RepF w Sh c v ∧ RepL w Sh cs r
def RepLU (w : World) (Sh : Nat → Prop) : List AV → List Value → Prop
  | [], vs => vs = []
  | c :: cs, vs => ∃ v r, vs = v :: r ∧ RepF w Sh c v ∧ RepLU w Sh cs r
def RepRow (w : World) (Sh : Nat → Prop) (sz : Nat) : List AV → List Value → Prop
  | [], vs => vs = []
  | e :: l, vs => ∃ v r, vs = v.cells.toList ++ r ∧ v.cells.size = sz ∧ (∀ u ∈ v.cells.toList, u.oneCell' = true) ∧ RepF w Sh e v ∧ RepRow w Sh sz l r
end

/-- What lies behind a name. -/
inductive Own where
  | none
  | dead
  | live (b base : Nat)

structure Ctx where
  Sh : Nat → Prop
  own : Stamp → Own
  box : Nat → Option Nat

/-- A block of plain cells, none of them frozen. -/
def openBlock (w : World) (b : Nat) (n : Nat) : Prop := ∃ c e lo hi, w.heap[b]? = some (.cells c e (lo, hi)) ∧ n ≤ c.size ∧ (∀ o, o < c.size → ¬ (lo ≤ o ∧ o < hi)) ∧ lo ≤ hi

mutual
def Rep (w : World) (C : Ctx) : AV → Value → Prop
  | .sl (some (g, eo)) nb sz l, v => C.own g = .dead ∨ (nb = true ∧ l = [] ∧ v = .slice none 0 0) ∨
      (nb = false ∧ ∃ b base off cap vs, C.own g = .live b base ∧ (off = base + eo * sz ∨ cap = 0) ∧ v = .slice (some ⟨b, off, none⟩) l.length cap ∧ l.length ≤ cap ∧
        cellsAt w b off vs ∧ RepRow w C.Sh sz l vs ∧ openBlock w b (off + cap * sz))
  | .ptr id off, v => ∃ b, C.box id = some b ∧ v = .pointer (some ⟨b, off, none⟩)
  | .eptr (some (g, eo)) sz l i off, v => C.own g = .dead ∨
      ∃ b base vs, C.own g = .live b base ∧ v = .pointer (some ⟨b, base + eo * sz + i * sz + off, none⟩) ∧ i < l.length ∧ off < sz ∧
        cellsAt w b (base + eo * sz) vs ∧ RepRow w C.Sh sz l vs ∧ openBlock w b (base + eo * sz + l.length * sz)
  | .agg cs, v => ∃ vs : List Value, v = .agg vs.toArray ∧ RepS w C cs vs
  | .tup cs, v => ∃ vs : List Value, v = .tuple vs.toArray ∧ RepSU w C cs vs
  | .fn f cap, v => ∃ vs : List Value, v = .func (.func f) #[] vs.toArray ∧ RepS w C cap vs
  | .bsl id off len cap, v => ∃ b, C.box id = some b ∧ v = .slice (some ⟨b, off, none⟩) len cap ∧ len ≤ cap
  | .undef, _ => True
  | .int k n, v => v = .int k n
  | .bool b, v => v = .bool b
  | .str l, v => v = .string ⟨l.toArray⟩
  | .sl none nb sz l, v => RepF w C.Sh (.sl none nb sz l) v
  | .nilp, v => v = .pointer none
  | .eptr none sz l i off, v => RepF w C.Sh (.eptr none sz l i off) v
  | .nilf, v => v = .nilFunc
def RepS (w : World) (C : Ctx) : List AV → List Value → Prop
  | [], vs => vs = []
  | c :: cs, vs => ∃ v r, vs = v :: r ∧ v.oneCell' = true ∧ Rep w C c v ∧ RepS w C cs r
def RepSU (w : World) (C : Ctx) : List AV → List Value → Prop
  | [], vs => vs = []
  | c :: cs, vs => ∃ v r, vs = v :: r ∧ Rep w C c v ∧ RepSU w C cs r
end

/-! ### Keeping -/

theorem cell?_of_heap {w w' : World} {b : Nat} (h : w'.heap[b]? = w.heap[b]?) (o : Nat) : w'.cell? ⟨b, o, none⟩ = w.cell? ⟨b, o, none⟩ := by
  simp only [World.cell?, h]

theorem cellsAt.keep {w w' : World} {b off : Nat} {vs : List Value} (h : cellsAt w b off vs) (hb : w'.heap[b]? = w.heap[b]?) : cellsAt w' b off vs :=
  fun j v hj => by rw [cell?_of_heap hb]; exact h j v hj

theorem openBlock.keep {w w' : World} {b n : Nat} (h : openBlock w b n) (hb : w'.heap[b]? = w.heap[b]?) : openBlock w' b n := by
  obtain ⟨c, e, lo, hi, h1, h2⟩ := h
  exact ⟨c, e, lo, hi, hb.trans h1, h2⟩

theorem openBlock.le {w : World} {b n m : Nat} (h : openBlock w b n) (hm : m ≤ n) : openBlock w b m := by
  obtain ⟨c, e, lo, hi, h1, h2, h3⟩ := h
  exact ⟨c, e, lo, hi, h1, Nat.le_trans hm h2, h3⟩

mutual
theorem RepF.keep {w w' : World} {Sh Sh' : Nat → Prop} (hs : ∀ b, Sh b → Sh' b ∧ w'.heap[b]? = w.heap[b]?) :
    ∀ (a : AV) (v : Value), RepF w Sh a v → RepF w' Sh' a v
  | .undef, _, _ => trivial
  | .int .., _, h => h
  | .bool .., _, h => h
  | .str .., _, h => h
  | .sl none nb sz l, v, h => by
    rcases h with h | ⟨h0, b, off, cap, vs, sp, h1, h2, h3, h5⟩
    · exact .inl h
    · exact .inr ⟨h0, b, off, cap, vs, sp, h1, h2, h3.imp id fun h3 => ⟨h3.1, (hs b h3.2.1).1, h3.2.2.keep (hs b h3.2.1).2⟩, RepRow.keep hs sz l vs h5⟩
  | .sl (some _) .., _, h => h.elim
  | .ptr .., _, h => h.elim
  | .nilp, _, h => h
  | .eptr none sz l i off, v, h => by
    obtain ⟨b, o, vs, h1, h2, h2', h3, h4, h5⟩ := h
    exact ⟨b, o, vs, h1, h2, h2', (hs b h3).1, h4.keep (hs b h3).2, RepRow.keep hs sz l vs h5⟩
  | .eptr (some _) .., _, h => h.elim
  | .agg cs, v, h => by
    obtain ⟨vs, h1, h2⟩ := h
    exact ⟨vs, h1, RepL.keep hs cs vs h2⟩
  | .tup cs, v, h => by
    obtain ⟨vs, h1, h2⟩ := h
    exact ⟨vs, h1, RepLU.keep hs cs vs h2⟩
  | .fn f cs, v, h => by
    obtain ⟨vs, h1, h2⟩ := h
    exact ⟨vs, h1, RepL.keep hs cs vs h2⟩
  | .nilf, _, h => h
  | .bsl .., _, h => h.elim
theorem RepL.keep {w w' : World} {Sh Sh' : Nat → Prop} (hs : ∀ b, Sh b → Sh' b ∧ w'.heap[b]? = w.heap[b]?) :
    ∀ (l : List AV) (vs : List Value), RepL w Sh l vs → RepL w' Sh' l vs
  | [], _, h => h
  | c :: cs, _, h => by
    obtain ⟨v, r, h1, h0, h2, h3⟩ := h
    exact ⟨v, r, h1, h0, RepF.keep hs c v h2, RepL.keep hs cs r h3⟩
theorem RepLU.keep {w w' : World} {Sh Sh' : Nat → Prop} (hs : ∀ b, Sh b → Sh' b ∧ w'.heap[b]? = w.heap[b]?) :
    ∀ (l : List AV) (vs : List Value), RepLU w Sh l vs → RepLU w' Sh' l vs
  | [], _, h => h
  | c :: cs, _, h => by
    obtain ⟨v, r, h1, h2, h3⟩ := h
    exact ⟨v, r, h1, RepF.keep hs c v h2, RepLU.keep hs cs r h3⟩
theorem RepRow.keep {w w' : World} {Sh Sh' : Nat → Prop} (hs : ∀ b, Sh b → Sh' b ∧ w'.heap[b]? = w.heap[b]?) (sz : Nat) :
    ∀ (l : List AV) (vs : List Value), RepRow w Sh sz l vs → RepRow w' Sh' sz l vs
  | [], _, h => h
  | c :: cs, _, h => by
    obtain ⟨v, r, h1, h2, h0, h3, h4⟩ := h
    exact ⟨v, r, h1, h2, h0, RepF.keep hs c v h3, RepRow.keep hs sz cs r h4⟩
end

/-- From one context to another: what is shared stays, boxes stay where they are, what is owned stays or dies. -/
structure Ctx.To (w : World) (C : Ctx) (w' : World) (C' : Ctx) : Prop where
  sh : ∀ b, C.Sh b → C'.Sh b ∧ w'.heap[b]? = w.heap[b]?
  box : ∀ id b, C.box id = some b → C'.box id = some b
  own : ∀ g, C.own g = .none ∨ C'.own g = .dead ∨ (C'.own g = C.own g ∧ ∀ b base, C.own g = .live b base → w'.heap[b]? = w.heap[b]?)

mutual
theorem Rep.to {w w' : World} {C C' : Ctx} (t : C.To w w' C') : ∀ (a : AV) (v : Value), Rep w C a v → Rep w' C' a v
  | .undef, _, _ => trivial
  | .int .., _, h => h
  | .bool .., _, h => h
  | .str .., _, h => h
  | .sl none nb sz l, v, h => RepF.keep t.sh _ v h
  | .sl (some (g, eo)) nb sz l, v, h => by
    rcases t.own g with hn | hd | ⟨he, hk⟩
    · rcases h with h | h | ⟨h0, b, base, off, cap, vs, h1, _⟩
      · rw [hn] at h; cases h
      · exact .inr (.inl h)
      · rw [hn] at h1; cases h1
    · exact .inl hd
    · rcases h with h | h | ⟨h0, b, base, off, cap, vs, h1, h1', h2, h3, h4, h5, h6⟩
      · exact .inl (he.trans h)
      · exact .inr (.inl h)
      · exact .inr (.inr ⟨h0, b, base, off, cap, vs, he.trans h1, h1', h2, h3, h4.keep (hk b base h1), RepRow.keep t.sh sz l vs h5, h6.keep (hk b base h1)⟩)
  | .ptr id off, v, h => by
    obtain ⟨b, h1, h2⟩ := h
    exact ⟨b, t.box id b h1, h2⟩
  | .nilp, _, h => h
  | .eptr none sz l i off, v, h => RepF.keep t.sh _ v h
  | .eptr (some (g, eo)) sz l i off, v, h => by
    rcases t.own g with hn | hd | ⟨he, hk⟩
    · rcases h with h | ⟨b, base, vs, h1, h2, h3, h3', h4, h5, h6⟩
      · rw [hn] at h; cases h
      · rw [hn] at h1; cases h1
    · exact .inl hd
    · rcases h with h | ⟨b, base, vs, h1, h2, h3, h3', h4, h5, h6⟩
      · exact .inl (he.trans h)
      · exact .inr ⟨b, base, vs, he.trans h1, h2, h3, h3', h4.keep (hk b base h1), RepRow.keep t.sh sz l vs h5, h6.keep (hk b base h1)⟩
  | .agg cs, v, h => by
    obtain ⟨vs, h1, h2⟩ := h
    exact ⟨vs, h1, RepS.to t cs vs h2⟩
  | .tup cs, v, h => by
    obtain ⟨vs, h1, h2⟩ := h
    exact ⟨vs, h1, RepSU.to t cs vs h2⟩
  | .fn f cs, v, h => by
    obtain ⟨vs, h1, h2⟩ := h
    exact ⟨vs, h1, RepS.to t cs vs h2⟩
  | .nilf, _, h => h
  | .bsl id off len cap, v, h => by
    obtain ⟨b, h1, h2⟩ := h
    exact ⟨b, t.box id b h1, h2⟩
theorem RepS.to {w w' : World} {C C' : Ctx} (t : C.To w w' C') : ∀ (l : List AV) (vs : List Value), RepS w C l vs → RepS w' C' l vs
  | [], _, h => h
  | c :: cs, _, h => by
    obtain ⟨v, r, h1, h0, h2, h3⟩ := h
    exact ⟨v, r, h1, h0, Rep.to t c v h2, RepS.to t cs r h3⟩
theorem RepSU.to {w w' : World} {C C' : Ctx} (t : C.To w w' C') : ∀ (l : List AV) (vs : List Value), RepSU w C l vs → RepSU w' C' l vs
  | [], _, h => h
  | c :: cs, _, h => by
    obtain ⟨v, r, h1, h2, h3⟩ := h
    exact ⟨v, r, h1, Rep.to t c v h2, RepSU.to t cs r h3⟩
end

mutual
/-- What is shared is so everywhere. -/
theorem Rep.of_shared {w : World} {C : Ctx} : ∀ (a : AV) (v : Value), RepF w C.Sh a v → Rep w C a v
  | .undef, _, _ => trivial
  | .int .., _, h => h
  | .bool .., _, h => h
  | .str .., _, h => h
  | .sl none nb sz l, v, h => h
  | .sl (some _) .., _, h => h.elim
  | .ptr .., _, h => h.elim
  | .nilp, _, h => h
  | .eptr none sz l i off, v, h => h
  | .eptr (some _) .., _, h => h.elim
  | .agg cs, v, h => by
    obtain ⟨vs, h1, h2⟩ := h
    exact ⟨vs, h1, RepS.of_shared cs vs h2⟩
  | .tup cs, v, h => by
    obtain ⟨vs, h1, h2⟩ := h
    exact ⟨vs, h1, RepSU.of_shared cs vs h2⟩
  | .fn f cs, v, h => by
    obtain ⟨vs, h1, h2⟩ := h
    exact ⟨vs, h1, RepS.of_shared cs vs h2⟩
  | .nilf, _, h => h
  | .bsl .., _, h => h.elim
theorem RepS.of_shared {w : World} {C : Ctx} : ∀ (l : List AV) (vs : List Value), RepL w C.Sh l vs → RepS w C l vs
  | [], _, h => h
  | c :: cs, _, h => by
    obtain ⟨v, r, h1, h0, h2, h3⟩ := h
    exact ⟨v, r, h1, h0, Rep.of_shared c v h2, RepS.of_shared cs r h3⟩
theorem RepSU.of_shared {w : World} {C : Ctx} : ∀ (l : List AV) (vs : List Value), RepLU w C.Sh l vs → RepSU w C l vs
  | [], _, h => h
  | c :: cs, _, h => by
    obtain ⟨v, r, h1, h2, h3⟩ := h
    exact ⟨v, r, h1, Rep.of_shared c v h2, RepSU.of_shared cs r h3⟩
end
/-! ### Rows, cut and joined -/

theorem RepRow.length {w : World} {Sh : Nat → Prop} {sz : Nat} : ∀ {l : List AV} {vs : List Value}, RepRow w Sh sz l vs → vs.length = l.length * sz
  | [], _, h => by simp only [RepRow] at h; simp [h]
  | e :: l, _, h => by
    obtain ⟨v, r, rfl, h1, _, _, h2⟩ := h
    have := RepRow.length h2
    simp [this, h1, Nat.add_mul]; omega

theorem RepRow.one {w : World} {Sh : Nat → Prop} {sz : Nat} : ∀ {l : List AV} {vs : List Value}, RepRow w Sh sz l vs → ∀ u ∈ vs, u.oneCell' = true
  | [], _, h, u, hu => by simp only [RepRow] at h; simp [h] at hu
  | e :: l, _, h, u, hu => by
    obtain ⟨v, r, rfl, h1, h0, _, h2⟩ := h
    rcases List.mem_append.1 hu with hu | hu
    · exact h0 u hu
    · exact RepRow.one h2 u hu

theorem RepRow.append {w : World} {Sh : Nat → Prop} {sz : Nat} : ∀ {l l' : List AV} {vs vs' : List Value}, RepRow w Sh sz l vs → RepRow w Sh sz l' vs' → RepRow w Sh sz (l ++ l') (vs ++ vs')
  | [], _, _, _, h, h' => by simp only [RepRow] at h; simpa [h] using h'
  | e :: l, _, _, _, h, h' => by
    obtain ⟨v, r, rfl, h1, h0, h2, h3⟩ := h
    exact ⟨v, r ++ _, by simp, h1, h0, h2, RepRow.append h3 h'⟩

theorem RepRow.drop {w : World} {Sh : Nat → Prop} {sz : Nat} : ∀ (n : Nat) {l : List AV} {vs : List Value}, RepRow w Sh sz l vs → RepRow w Sh sz (l.drop n) (vs.drop (n * sz))
  | 0, _, _, h => by simpa using h
  | n + 1, [], _, h => by simp only [RepRow] at h; simp [h, RepRow]
  | n + 1, e :: l, _, h => by
    obtain ⟨v, r, rfl, h1, h0, h2, h3⟩ := h
    have := RepRow.drop n h3
    have e : (n + 1) * sz = v.cells.toList.length + n * sz := by simp [h1, Nat.add_mul]; omega
    have e2 : (v.cells.toList ++ r).drop (v.cells.toList.length + n * sz) = r.drop (n * sz) := by
      rw [← List.drop_drop, List.drop_left]
    rw [e, e2, List.drop_succ_cons]
    exact this

theorem RepRow.take {w : World} {Sh : Nat → Prop} {sz : Nat} : ∀ (n : Nat) {l : List AV} {vs : List Value}, RepRow w Sh sz l vs → RepRow w Sh sz (l.take n) (vs.take (n * sz))
  | 0, _, _, h => by simp [RepRow]
  | n + 1, [], _, h => by simp only [RepRow] at h; simp [h, RepRow]
  | n + 1, e :: l, _, h => by
    obtain ⟨v, r, rfl, h1, h0, h2, h3⟩ := h
    have := RepRow.take n h3
    have e : (n + 1) * sz = v.cells.toList.length + n * sz := by simp [h1, Nat.add_mul]; omega
    rw [e, List.take_length_add_append]
    exact ⟨v, _, rfl, h1, h0, h2, this⟩

theorem RepRow.get {w : World} {Sh : Nat → Prop} {sz : Nat} {l : List AV} {vs : List Value} (h : RepRow w Sh sz l vs) {i : Nat} {e : AV} (hi : l[i]? = some e) :
    ∃ v, v.cells.toList = (vs.drop (i * sz)).take sz ∧ v.cells.size = sz ∧ (∀ u ∈ v.cells.toList, u.oneCell' = true) ∧ RepF w Sh e v := by
  have hd := h.drop i
  have hlt : i < l.length := (List.getElem?_eq_some_iff.1 hi).1
  rw [List.drop_eq_getElem_cons hlt] at hd
  obtain ⟨v, r, h0, h1, h2, h3, _⟩ := hd
  have he : l[i] = e := by rw [List.getElem?_eq_getElem hlt] at hi; exact Option.some.inj hi
  refine ⟨v, ?_, h1, h2, by rw [← he]; exact h3⟩
  rw [h0, ← h1, ← Array.length_toList, List.take_left]

theorem cellsAt.drop {w : World} {b off : Nat} {vs : List Value} (h : cellsAt w b off vs) (n : Nat) : cellsAt w b (off + n) (vs.drop n) := by
  intro j v hj
  rw [List.getElem?_drop] at hj
  rw [Nat.add_assoc]
  exact h _ _ hj

theorem cellsAt.take {w : World} {b off : Nat} {vs : List Value} (h : cellsAt w b off vs) (n : Nat) : cellsAt w b off (vs.take n) := by
  intro j v hj
  rw [List.getElem?_take] at hj
  split at hj
  · exact h _ _ hj
  · cases hj

theorem RepL.length {w : World} {Sh : Nat → Prop} : ∀ {l : List AV} {vs : List Value}, RepL w Sh l vs → vs.length = l.length
  | [], _, h => by simp only [RepL] at h; simp [h]
  | e :: l, _, h => by
    obtain ⟨v, r, rfl, _, _, h2⟩ := h
    simp [RepL.length h2]
theorem RepS.length {w : World} {C : Ctx} : ∀ {l : List AV} {vs : List Value}, RepS w C l vs → vs.length = l.length
  | [], _, h => by simp only [RepS] at h; simp [h]
  | e :: l, _, h => by
    obtain ⟨v, r, rfl, _, _, h2⟩ := h
    simp [RepS.length h2]
theorem RepS.get {w : World} {C : Ctx} : ∀ {l : List AV} {vs : List Value}, RepS w C l vs → ∀ {i : Nat} {e : AV}, l[i]? = some e → ∃ v, vs[i]? = some v ∧ v.oneCell' = true ∧ Rep w C e v
  | [], _, h, i, e, hi => by simp at hi
  | c :: l, _, h, 0, e, hi => by
    obtain ⟨v, r, rfl, h1, h2, _⟩ := h
    simp at hi; subst hi
    exact ⟨v, by simp, h1, h2⟩
  | c :: l, _, h, i + 1, e, hi => by
    obtain ⟨v, r, rfl, h1, h2, h3⟩ := h
    obtain ⟨u, hu⟩ := RepS.get h3 (by simpa using hi)
    exact ⟨u, by simpa using hu⟩
theorem RepL.get {w : World} {Sh : Nat → Prop} : ∀ {l : List AV} {vs : List Value}, RepL w Sh l vs → ∀ {i : Nat} {e : AV}, l[i]? = some e → ∃ v, vs[i]? = some v ∧ v.oneCell' = true ∧ RepF w Sh e v
  | [], _, h, i, e, hi => by simp at hi
  | c :: l, _, h, 0, e, hi => by
    obtain ⟨v, r, rfl, h1, h2, _⟩ := h
    simp at hi; subst hi
    exact ⟨v, by simp, h1, h2⟩
  | c :: l, _, h, i + 1, e, hi => by
    obtain ⟨v, r, rfl, h1, h2, h3⟩ := h
    obtain ⟨u, hu⟩ := RepL.get h3 (by simpa using hi)
    exact ⟨u, by simpa using hu⟩
theorem RepSU.get {w : World} {C : Ctx} : ∀ {l : List AV} {vs : List Value}, RepSU w C l vs → ∀ {i : Nat} {e : AV}, l[i]? = some e → ∃ v, vs[i]? = some v ∧ Rep w C e v
  | [], _, h, i, e, hi => by simp at hi
  | c :: l, _, h, 0, e, hi => by
    obtain ⟨v, r, rfl, h2, _⟩ := h
    simp at hi; subst hi
    exact ⟨v, by simp, h2⟩
  | c :: l, _, h, i + 1, e, hi => by
    obtain ⟨v, r, rfl, h2, h3⟩ := h
    obtain ⟨u, hu⟩ := RepSU.get h3 (by simpa using hi)
    exact ⟨u, by simpa using hu⟩
theorem RepS.drop {w : World} {C : Ctx} : ∀ (n : Nat) {l : List AV} {vs : List Value}, RepS w C l vs → RepS w C (l.drop n) (vs.drop n)
  | 0, _, _, h => by simpa using h
  | n + 1, [], _, h => by simp only [RepS] at h; simp [h, RepS]
  | n + 1, e :: l, _, h => by
    obtain ⟨v, r, rfl, _, _, h3⟩ := h
    simpa using RepS.drop n h3
theorem RepS.take {w : World} {C : Ctx} : ∀ (n : Nat) {l : List AV} {vs : List Value}, RepS w C l vs → RepS w C (l.take n) (vs.take n)
  | 0, _, _, h => by simp [RepS]
  | n + 1, [], _, h => by simp only [RepS] at h; simp [h, RepS]
  | n + 1, e :: l, _, h => by
    obtain ⟨v, r, rfl, h1, h2, h3⟩ := h
    exact ⟨v, _, rfl, h1, h2, RepS.take n h3⟩
theorem RepL.drop {w : World} {Sh : Nat → Prop} : ∀ (n : Nat) {l : List AV} {vs : List Value}, RepL w Sh l vs → RepL w Sh (l.drop n) (vs.drop n)
  | 0, _, _, h => by simpa using h
  | n + 1, [], _, h => by simp only [RepL] at h; simp [h, RepL]
  | n + 1, e :: l, _, h => by
    obtain ⟨v, r, rfl, _, _, h3⟩ := h
    simpa using RepL.drop n h3
theorem RepL.take {w : World} {Sh : Nat → Prop} : ∀ (n : Nat) {l : List AV} {vs : List Value}, RepL w Sh l vs → RepL w Sh (l.take n) (vs.take n)
  | 0, _, _, h => by simp [RepL]
  | n + 1, [], _, h => by simp only [RepL] at h; simp [h, RepL]
  | n + 1, e :: l, _, h => by
    obtain ⟨v, r, rfl, h1, h2, h3⟩ := h
    exact ⟨v, _, rfl, h1, h2, RepL.take n h3⟩
theorem RepS.append {w : World} {C : Ctx} : ∀ {l l' : List AV} {vs vs' : List Value}, RepS w C l vs → RepS w C l' vs' → RepS w C (l ++ l') (vs ++ vs')
  | [], _, _, _, h, h' => by simp only [RepS] at h; simpa [h] using h'
  | e :: l, _, _, _, h, h' => by
    obtain ⟨v, r, rfl, h1, h2, h3⟩ := h
    exact ⟨v, r ++ _, by simp, h1, h2, RepS.append h3 h'⟩

/-- An element's cells. -/
theorem RepF.cells {w : World} {Sh : Nat → Prop} {e : AV} {v : Value} (h : RepF w Sh e v) (hl : v.cells.size = e.cells.length) (h1 : ∀ u ∈ v.cells.toList, u.oneCell' = true) :
    RepL w Sh e.cells v.cells.toList := by
  cases e with
  | agg cs =>
    obtain ⟨vs, rfl, h2⟩ := h
    simpa [Value.cells, AV.cells] using h2
  | undef =>
    simp only [AV.cells, List.length_cons, List.length_nil] at hl ⊢
    cases hv : v.cells.toList with
    | nil => have : v.cells.toList.length = 1 := by simpa using hl
             rw [hv] at this; cases this
    | cons u r =>
      have : v.cells.toList.length = 1 := by simpa using hl
      rw [hv] at this
      have hr : r = [] := by cases r with
        | nil => rfl
        | cons => simp at this
      subst hr
      exact ⟨u, [], rfl, h1 u (by rw [hv]; simp), trivial, rfl⟩
  | int k n => simp only [RepF] at h; subst h; exact ⟨_, [], rfl, rfl, rfl, rfl⟩
  | bool b => simp only [RepF] at h; subst h; exact ⟨_, [], rfl, rfl, rfl, rfl⟩
  | str l => simp only [RepF] at h; subst h; exact ⟨_, [], rfl, rfl, rfl, rfl⟩
  | nilp => simp only [RepF] at h; subst h; exact ⟨_, [], rfl, rfl, rfl, rfl⟩
  | nilf => simp only [RepF] at h; subst h; exact ⟨_, [], rfl, rfl, rfl, rfl⟩
  | ptr => exact h.elim
  | bsl => exact h.elim
  | fn f cap =>
    have h' := h
    obtain ⟨vs, rfl, _⟩ := h
    exact ⟨_, [], rfl, rfl, h', rfl⟩
  | tup cs =>
    obtain ⟨vs, rfl, _⟩ := h
    have := h1 (.tuple vs.toArray) (by simp [Value.cells])
    cases this
  | sl o nb sz l =>
    have h' := h
    cases o with
    | some p => exact h.elim
    | none =>
      rcases h with ⟨_, _, rfl⟩ | ⟨_, _, _, _, _, _, rfl, _⟩
      · exact ⟨_, [], rfl, rfl, h', rfl⟩
      · exact ⟨_, [], rfl, rfl, h', rfl⟩
  | eptr o sz l i off =>
    have h' := h
    cases o with
    | some p => exact h.elim
    | none =>
      obtain ⟨_, _, _, rfl, _⟩ := h
      exact ⟨_, [], rfl, rfl, h', rfl⟩
end Go.VS
