/- Part of a framework that states what Go functions answer on values as data; it holds for every program of the model. -/
import Derived.WalkKit
import Derived.Below
import Derived.OwnWalk
namespace Go.VS
set_option linter.unusedVariables false
set_option linter.unusedSimpArgs false
set_option linter.unusedSectionVars false
open Go
/-- A name of memory that one slice owns: (0, slot), or another space's. -/
abbrev Stamp := Nat × Nat
/-- Values as data: slices with what they hold. -/
inductive AV where
  | undef
  | int (k : IntKind) (n : Int)
  | bool (b : Bool)
  | str (l : List UInt8)
  | sl (o : Option (Stamp × Nat)) (nb : Bool) (sz : Nat) (l : List AV)
  | ptr (id off : Nat)
  | nilp
  | eptr (o : Option (Stamp × Nat)) (sz : Nat) (l : List AV) (i off : Nat)
  | agg (cs : List AV)
  | tup (vs : List AV)
  | fn (f : FuncId) (cap : List AV)
  | nilf
  | bsl (id off len cap : Nat)
  | yl (l : Nat)
  | itp (b : Nat) (p : Option (List UInt8 × List UInt8))
  | ghost (l : Nat) (stop : Bool) (done todo : List AV)
  | hid (v : AV)
  deriving Inhabited
def AV.cells : AV → List AV
  | .agg cs => cs
  | v => [v]
/-- Cells of a block from an offset on. -/
def cellsAt (w : World) (b off : Nat) (vs : List Value) : Prop :=
  ∀ (j : Nat) (v : Value), vs[j]? = some v → w.cell? ⟨b, off + j, none⟩ = some v
mutual
/-- What is shared: it lies in blocks that nobody writes any more. -/
def RepF (w : World) (Sh : Nat → Prop) : AV → Value → Prop
  | .undef, _ => True
  | .int k n, v => v = .int k n
  | .bool b, v => v = .bool b
  | .str l, v => v = .string ⟨l.toArray⟩
  | .sl none nb sz l, v => (nb = true ∧ l = [] ∧ v = .slice none 0 0) ∨
      (nb = false ∧ ∃ b off cap vs sp, v = .slice (some ⟨b, off, sp⟩) l.length cap ∧ l.length ≤ cap ∧ (cap = 0 ∨ (sp = none ∧ Sh b ∧ cellsAt w b off vs)) ∧ RepRow w Sh sz l vs)
  | .nilp, v => v = .pointer none
  | .eptr none sz l i off, v => ∃ b o vs, v = .pointer (some ⟨b, o + i * sz + off, none⟩) ∧ i < l.length ∧ off < sz ∧ Sh b ∧ cellsAt w b o vs ∧ RepRow w Sh sz l vs
  | .agg cs, v => ∃ vs : List Value, v = .agg vs.toArray ∧ RepL w Sh cs vs
  | .tup cs, v => ∃ vs : List Value, v = .tuple vs.toArray ∧ RepLU w Sh cs vs
  | .fn f cap, v => ∃ vs : List Value, v = .func (.func f) #[] vs.toArray ∧ RepL w Sh cap vs
  | .nilf, v => v = .nilFunc
  | .yl l, v => v = .func (.yield l) #[] #[]
  | _, _ => False
def RepL (w : World) (Sh : Nat → Prop) : List AV → List Value → Prop
  | [], vs => vs = []
  | c :: cs, vs => ∃ v r, vs = v :: r ∧ v.oneCell' = true ∧ RepF w Sh c v ∧ RepL w Sh cs r
def RepLU (w : World) (Sh : Nat → Prop) : List AV → List Value → Prop
  | [], vs => vs = []
  | c :: cs, vs => ∃ v r, vs = v :: r ∧ RepF w Sh c v ∧ RepLU w Sh cs r
def RepRow (w : World) (Sh : Nat → Prop) (sz : Nat) : List AV → List Value → Prop
  | [], vs => vs = []
  | e :: l, vs => ∃ v r, vs = v.cells.toList ++ r ∧ v.cells.size = sz ∧ (∀ u ∈ v.cells.toList, u.oneCell' = true) ∧ RepF w Sh e v ∧ RepRow w Sh sz l r
end
/-- What lies behind a name. -/
inductive Own where
  | none
  | dead
  | live (b base : Nat)
structure Ctx where
  Sh : Nat → Prop
  own : Stamp → Own
  box : Nat → Option Nat
  /-- What others look at (marks, what an iterator's caller has). -/
  fo : Nat → Prop := fun _ => False
/-- A block of plain cells, none of them frozen. -/
def openBlock (w : World) (b : Nat) (n : Nat) : Prop := ∃ c e lo hi, w.heap[b]? = some (.cells c e (lo, hi)) ∧ n ≤ c.size ∧ (∀ o, o < c.size → ¬ (lo ≤ o ∧ o < hi)) ∧ lo ≤ hi
mutual
def Rep (w : World) (C : Ctx) : AV → Value → Prop
  | .sl (some (g, eo)) nb sz l, v => C.own g = .dead ∨ (nb = true ∧ l = [] ∧ v = .slice none 0 0) ∨
      (nb = false ∧ ∃ b base off cap vs, C.own g = .live b base ∧ (off = base + eo * sz ∨ cap = 0) ∧ v = .slice (some ⟨b, off, none⟩) l.length cap ∧ l.length ≤ cap ∧
        cellsAt w b off vs ∧ RepRow w C.Sh sz l vs ∧ openBlock w b (off + cap * sz))
  | .ptr id off, v => ∃ b, C.box id = some b ∧ v = .pointer (some ⟨b, off, none⟩)
  | .eptr (some (g, eo)) sz l i off, v => C.own g = .dead ∨
      ∃ b base vs, C.own g = .live b base ∧ v = .pointer (some ⟨b, base + eo * sz + i * sz + off, none⟩) ∧ i < l.length ∧ off < sz ∧
        cellsAt w b (base + eo * sz) vs ∧ RepRow w C.Sh sz l vs ∧ openBlock w b (base + eo * sz + l.length * sz)
  | .agg cs, v => ∃ vs : List Value, v = .agg vs.toArray ∧ RepS w C cs vs
  | .tup cs, v => ∃ vs : List Value, v = .tuple vs.toArray ∧ RepSU w C cs vs
  | .fn f cap, v => ∃ vs : List Value, v = .func (.func f) #[] vs.toArray ∧ RepS w C cap vs
  | .bsl id off len cap, v => ∃ b, C.box id = some b ∧ v = .slice (some ⟨b, off, none⟩) len cap ∧ len ≤ cap
  | .undef, _ => True
  | .ghost .., _ => True
  | .hid _, _ => True
  | .int k n, v => v = .int k n
  | .bool b, v => v = .bool b
  | .str l, v => v = .string ⟨l.toArray⟩
  | .sl none nb sz l, v => RepF w C.Sh (.sl none nb sz l) v
  | .nilp, v => v = .pointer none
  | .eptr none sz l i off, v => RepF w C.Sh (.eptr none sz l i off) v
  | .nilf, v => v = .nilFunc
  | .yl l, v => v = .func (.yield l) #[] #[]
  | .itp b p, v => match p with | none => v = .pointer (some ⟨b, 0, none⟩) | some _ => True
def RepS (w : World) (C : Ctx) : List AV → List Value → Prop
  | [], vs => vs = []
  | c :: cs, vs => ∃ v r, vs = v :: r ∧ v.oneCell' = true ∧ Rep w C c v ∧ RepS w C cs r
def RepSU (w : World) (C : Ctx) : List AV → List Value → Prop
  | [], vs => vs = []
  | c :: cs, vs => ∃ v r, vs = v :: r ∧ Rep w C c v ∧ RepSU w C cs r
end
theorem cell?_of_heap {w w' : World} {b : Nat} (h : w'.heap[b]? = w.heap[b]?) (o : Nat) : w'.cell? ⟨b, o, none⟩ = w.cell? ⟨b, o, none⟩ := by
  simp only [World.cell?, h]
theorem cellsAt.keep {w w' : World} {b off : Nat} {vs : List Value} (h : cellsAt w b off vs) (hb : w'.heap[b]? = w.heap[b]?) : cellsAt w' b off vs :=
  fun j v hj => by rw [cell?_of_heap hb]; exact h j v hj
theorem openBlock.keep {w w' : World} {b n : Nat} (h : openBlock w b n) (hb : w'.heap[b]? = w.heap[b]?) : openBlock w' b n := by
  obtain ⟨c, e, lo, hi, h1, h2⟩ := h
  exact ⟨c, e, lo, hi, hb.trans h1, h2⟩
theorem openBlock.le {w : World} {b n m : Nat} (h : openBlock w b n) (hm : m ≤ n) : openBlock w b m := by
  obtain ⟨c, e, lo, hi, h1, h2, h3⟩ := h
  exact ⟨c, e, lo, hi, h1, Nat.le_trans hm h2, h3⟩
mutual
theorem RepF.keep {w w' : World} {Sh Sh' : Nat → Prop} (hs : ∀ b, Sh b → Sh' b ∧ w'.heap[b]? = w.heap[b]?) :
    ∀ (a : AV) (v : Value), RepF w Sh a v → RepF w' Sh' a v
  | .undef, _, _ => trivial
  | .ghost .., _, h => h.elim
  | .hid _, _, h => h.elim
  | .int .., _, h => h
  | .bool .., _, h => h
  | .str .., _, h => h
  | .sl none nb sz l, v, h => by
    rcases h with h | ⟨h0, b, off, cap, vs, sp, h1, h2, h3, h5⟩
    · exact .inl h
    · exact .inr ⟨h0, b, off, cap, vs, sp, h1, h2, h3.imp id fun h3 => ⟨h3.1, (hs b h3.2.1).1, h3.2.2.keep (hs b h3.2.1).2⟩, RepRow.keep hs sz l vs h5⟩
  | .sl (some _) .., _, h => h.elim
  | .ptr .., _, h => h.elim
  | .nilp, _, h => h
  | .eptr none sz l i off, v, h => by
    obtain ⟨b, o, vs, h1, h2, h2', h3, h4, h5⟩ := h
    exact ⟨b, o, vs, h1, h2, h2', (hs b h3).1, h4.keep (hs b h3).2, RepRow.keep hs sz l vs h5⟩
  | .eptr (some _) .., _, h => h.elim
  | .agg cs, v, h => by
    obtain ⟨vs, h1, h2⟩ := h
    exact ⟨vs, h1, RepL.keep hs cs vs h2⟩
  | .tup cs, v, h => by
    obtain ⟨vs, h1, h2⟩ := h
    exact ⟨vs, h1, RepLU.keep hs cs vs h2⟩
  | .fn f cs, v, h => by
    obtain ⟨vs, h1, h2⟩ := h
    exact ⟨vs, h1, RepL.keep hs cs vs h2⟩
  | .nilf, _, h => h
  | .yl _, _, h => h
  | .itp .., _, h => h.elim
  | .bsl .., _, h => h.elim
theorem RepL.keep {w w' : World} {Sh Sh' : Nat → Prop} (hs : ∀ b, Sh b → Sh' b ∧ w'.heap[b]? = w.heap[b]?) :
    ∀ (l : List AV) (vs : List Value), RepL w Sh l vs → RepL w' Sh' l vs
  | [], _, h => h
  | c :: cs, _, h => by
    obtain ⟨v, r, h1, h0, h2, h3⟩ := h
    exact ⟨v, r, h1, h0, RepF.keep hs c v h2, RepL.keep hs cs r h3⟩
theorem RepLU.keep {w w' : World} {Sh Sh' : Nat → Prop} (hs : ∀ b, Sh b → Sh' b ∧ w'.heap[b]? = w.heap[b]?) :
    ∀ (l : List AV) (vs : List Value), RepLU w Sh l vs → RepLU w' Sh' l vs
  | [], _, h => h
  | c :: cs, _, h => by
    obtain ⟨v, r, h1, h2, h3⟩ := h
    exact ⟨v, r, h1, RepF.keep hs c v h2, RepLU.keep hs cs r h3⟩
theorem RepRow.keep {w w' : World} {Sh Sh' : Nat → Prop} (hs : ∀ b, Sh b → Sh' b ∧ w'.heap[b]? = w.heap[b]?) (sz : Nat) :
    ∀ (l : List AV) (vs : List Value), RepRow w Sh sz l vs → RepRow w' Sh' sz l vs
  | [], _, h => h
  | c :: cs, _, h => by
    obtain ⟨v, r, h1, h2, h0, h3, h4⟩ := h
    exact ⟨v, r, h1, h2, h0, RepF.keep hs c v h3, RepRow.keep hs sz cs r h4⟩
end
/-- From one context to another: what is shared stays, boxes stay where they are, what is owned stays or dies. -/
structure Ctx.To (w : World) (C : Ctx) (w' : World) (C' : Ctx) : Prop where
  sh : ∀ b, C.Sh b → C'.Sh b ∧ w'.heap[b]? = w.heap[b]?
  box : ∀ id b, C.box id = some b → C'.box id = some b
  own : ∀ g, C.own g = .none ∨ C'.own g = .dead ∨ (C'.own g = C.own g ∧ ∀ b base, C.own g = .live b base → w'.heap[b]? = w.heap[b]?)
mutual
theorem Rep.to {w w' : World} {C C' : Ctx} (t : C.To w w' C') : ∀ (a : AV) (v : Value), Rep w C a v → Rep w' C' a v
  | .undef, _, _ => trivial
  | .ghost .., _, _ => trivial
  | .hid _, _, _ => trivial
  | .int .., _, h => h
  | .bool .., _, h => h
  | .str .., _, h => h
  | .sl none nb sz l, v, h => RepF.keep t.sh _ v h
  | .sl (some (g, eo)) nb sz l, v, h => by
    rcases t.own g with hn | hd | ⟨he, hk⟩
    · rcases h with h | h | ⟨h0, b, base, off, cap, vs, h1, _⟩
      · rw [hn] at h; cases h
      · exact .inr (.inl h)
      · rw [hn] at h1; cases h1
    · exact .inl hd
    · rcases h with h | h | ⟨h0, b, base, off, cap, vs, h1, h1', h2, h3, h4, h5, h6⟩
      · exact .inl (he.trans h)
      · exact .inr (.inl h)
      · exact .inr (.inr ⟨h0, b, base, off, cap, vs, he.trans h1, h1', h2, h3, h4.keep (hk b base h1), RepRow.keep t.sh sz l vs h5, h6.keep (hk b base h1)⟩)
  | .ptr id off, v, h => by
    obtain ⟨b, h1, h2⟩ := h
    exact ⟨b, t.box id b h1, h2⟩
  | .nilp, _, h => h
  | .eptr none sz l i off, v, h => RepF.keep t.sh _ v h
  | .eptr (some (g, eo)) sz l i off, v, h => by
    rcases t.own g with hn | hd | ⟨he, hk⟩
    · rcases h with h | ⟨b, base, vs, h1, h2, h3, h3', h4, h5, h6⟩
      · rw [hn] at h; cases h
      · rw [hn] at h1; cases h1
    · exact .inl hd
    · rcases h with h | ⟨b, base, vs, h1, h2, h3, h3', h4, h5, h6⟩
      · exact .inl (he.trans h)
      · exact .inr ⟨b, base, vs, he.trans h1, h2, h3, h3', h4.keep (hk b base h1), RepRow.keep t.sh sz l vs h5, h6.keep (hk b base h1)⟩
  | .agg cs, v, h => by
    obtain ⟨vs, h1, h2⟩ := h
    exact ⟨vs, h1, RepS.to t cs vs h2⟩
  | .tup cs, v, h => by
    obtain ⟨vs, h1, h2⟩ := h
    exact ⟨vs, h1, RepSU.to t cs vs h2⟩
  | .fn f cs, v, h => by
    obtain ⟨vs, h1, h2⟩ := h
    exact ⟨vs, h1, RepS.to t cs vs h2⟩
  | .nilf, _, h => h
  | .yl _, _, h => h
  | .itp .., _, h => h
  | .bsl id off len cap, v, h => by
    obtain ⟨b, h1, h2⟩ := h
    exact ⟨b, t.box id b h1, h2⟩
theorem RepS.to {w w' : World} {C C' : Ctx} (t : C.To w w' C') : ∀ (l : List AV) (vs : List Value), RepS w C l vs → RepS w' C' l vs
  | [], _, h => h
  | c :: cs, _, h => by
    obtain ⟨v, r, h1, h0, h2, h3⟩ := h
    exact ⟨v, r, h1, h0, Rep.to t c v h2, RepS.to t cs r h3⟩
theorem RepSU.to {w w' : World} {C C' : Ctx} (t : C.To w w' C') : ∀ (l : List AV) (vs : List Value), RepSU w C l vs → RepSU w' C' l vs
  | [], _, h => h
  | c :: cs, _, h => by
    obtain ⟨v, r, h1, h2, h3⟩ := h
    exact ⟨v, r, h1, Rep.to t c v h2, RepSU.to t cs r h3⟩
end
mutual
/-- What is shared is so everywhere. -/
theorem Rep.of_shared {w : World} {C : Ctx} : ∀ (a : AV) (v : Value), RepF w C.Sh a v → Rep w C a v
  | .undef, _, _ => trivial
  | .ghost .., _, h => h.elim
  | .hid _, _, h => h.elim
  | .int .., _, h => h
  | .bool .., _, h => h
  | .str .., _, h => h
  | .sl none nb sz l, v, h => h
  | .sl (some _) .., _, h => h.elim
  | .ptr .., _, h => h.elim
  | .nilp, _, h => h
  | .eptr none sz l i off, v, h => h
  | .eptr (some _) .., _, h => h.elim
  | .agg cs, v, h => by
    obtain ⟨vs, h1, h2⟩ := h
    exact ⟨vs, h1, RepS.of_shared cs vs h2⟩
  | .tup cs, v, h => by
    obtain ⟨vs, h1, h2⟩ := h
    exact ⟨vs, h1, RepSU.of_shared cs vs h2⟩
  | .fn f cs, v, h => by
    obtain ⟨vs, h1, h2⟩ := h
    exact ⟨vs, h1, RepS.of_shared cs vs h2⟩
  | .nilf, _, h => h
  | .yl _, _, h => h
  | .itp .., _, h => h.elim
  | .bsl .., _, h => h.elim
theorem RepS.of_shared {w : World} {C : Ctx} : ∀ (l : List AV) (vs : List Value), RepL w C.Sh l vs → RepS w C l vs
  | [], _, h => h
  | c :: cs, _, h => by
    obtain ⟨v, r, h1, h0, h2, h3⟩ := h
    exact ⟨v, r, h1, h0, Rep.of_shared c v h2, RepS.of_shared cs r h3⟩
theorem RepSU.of_shared {w : World} {C : Ctx} : ∀ (l : List AV) (vs : List Value), RepLU w C.Sh l vs → RepSU w C l vs
  | [], _, h => h
  | c :: cs, _, h => by
    obtain ⟨v, r, h1, h2, h3⟩ := h
    exact ⟨v, r, h1, Rep.of_shared c v h2, RepSU.of_shared cs r h3⟩
end
theorem RepRow.length {w : World} {Sh : Nat → Prop} {sz : Nat} : ∀ {l : List AV} {vs : List Value}, RepRow w Sh sz l vs → vs.length = l.length * sz
  | [], _, h => by simp only [RepRow] at h; simp [h]
  | e :: l, _, h => by
    obtain ⟨v, r, rfl, h1, _, _, h2⟩ := h
    have := RepRow.length h2
    simp [this, h1, Nat.add_mul]; omega
theorem RepRow.one {w : World} {Sh : Nat → Prop} {sz : Nat} : ∀ {l : List AV} {vs : List Value}, RepRow w Sh sz l vs → ∀ u ∈ vs, u.oneCell' = true
  | [], _, h, u, hu => by simp only [RepRow] at h; simp [h] at hu
  | e :: l, _, h, u, hu => by
    obtain ⟨v, r, rfl, h1, h0, _, h2⟩ := h
    rcases List.mem_append.1 hu with hu | hu
    · exact h0 u hu
    · exact RepRow.one h2 u hu
theorem RepRow.append {w : World} {Sh : Nat → Prop} {sz : Nat} : ∀ {l l' : List AV} {vs vs' : List Value}, RepRow w Sh sz l vs → RepRow w Sh sz l' vs' → RepRow w Sh sz (l ++ l') (vs ++ vs')
  | [], _, _, _, h, h' => by simp only [RepRow] at h; simpa [h] using h'
  | e :: l, _, _, _, h, h' => by
    obtain ⟨v, r, rfl, h1, h0, h2, h3⟩ := h
    exact ⟨v, r ++ _, by simp, h1, h0, h2, RepRow.append h3 h'⟩
theorem RepRow.drop {w : World} {Sh : Nat → Prop} {sz : Nat} : ∀ (n : Nat) {l : List AV} {vs : List Value}, RepRow w Sh sz l vs → RepRow w Sh sz (l.drop n) (vs.drop (n * sz))
  | 0, _, _, h => by simpa using h
  | n + 1, [], _, h => by simp only [RepRow] at h; simp [h, RepRow]
  | n + 1, e :: l, _, h => by
    obtain ⟨v, r, rfl, h1, h0, h2, h3⟩ := h
    have := RepRow.drop n h3
    have e : (n + 1) * sz = v.cells.toList.length + n * sz := by simp [h1, Nat.add_mul]; omega
    have e2 : (v.cells.toList ++ r).drop (v.cells.toList.length + n * sz) = r.drop (n * sz) := by
      rw [← List.drop_drop, List.drop_left]
    rw [e, e2, List.drop_succ_cons]
    exact this
theorem RepRow.take {w : World} {Sh : Nat → Prop} {sz : Nat} : ∀ (n : Nat) {l : List AV} {vs : List Value}, RepRow w Sh sz l vs → RepRow w Sh sz (l.take n) (vs.take (n * sz))
  | 0, _, _, h => by simp [RepRow]
  | n + 1, [], _, h => by simp only [RepRow] at h; simp [h, RepRow]
  | n + 1, e :: l, _, h => by
    obtain ⟨v, r, rfl, h1, h0, h2, h3⟩ := h
    have := RepRow.take n h3
    have e : (n + 1) * sz = v.cells.toList.length + n * sz := by simp [h1, Nat.add_mul]; omega
    rw [e, List.take_length_add_append]
    exact ⟨v, _, rfl, h1, h0, h2, this⟩
theorem RepRow.get {w : World} {Sh : Nat → Prop} {sz : Nat} {l : List AV} {vs : List Value} (h : RepRow w Sh sz l vs) {i : Nat} {e : AV} (hi : l[i]? = some e) :
    ∃ v, v.cells.toList = (vs.drop (i * sz)).take sz ∧ v.cells.size = sz ∧ (∀ u ∈ v.cells.toList, u.oneCell' = true) ∧ RepF w Sh e v := by
  have hd := h.drop i
  have hlt : i < l.length := (List.getElem?_eq_some_iff.1 hi).1
  rw [List.drop_eq_getElem_cons hlt] at hd
  obtain ⟨v, r, h0, h1, h2, h3, _⟩ := hd
  have he : l[i] = e := by rw [List.getElem?_eq_getElem hlt] at hi; exact Option.some.inj hi
  refine ⟨v, ?_, h1, h2, by rw [← he]; exact h3⟩
  rw [h0, ← h1, ← Array.length_toList, List.take_left]
theorem cellsAt.drop {w : World} {b off : Nat} {vs : List Value} (h : cellsAt w b off vs) (n : Nat) : cellsAt w b (off + n) (vs.drop n) := by
  intro j v hj
  rw [List.getElem?_drop] at hj
  rw [Nat.add_assoc]
  exact h _ _ hj
theorem cellsAt.take {w : World} {b off : Nat} {vs : List Value} (h : cellsAt w b off vs) (n : Nat) : cellsAt w b off (vs.take n) := by
  intro j v hj
  rw [List.getElem?_take] at hj
  split at hj
  · exact h _ _ hj
  · cases hj
theorem RepL.length {w : World} {Sh : Nat → Prop} : ∀ {l : List AV} {vs : List Value}, RepL w Sh l vs → vs.length = l.length
  | [], _, h => by simp only [RepL] at h; simp [h]
  | e :: l, _, h => by
    obtain ⟨v, r, rfl, _, _, h2⟩ := h
    simp [RepL.length h2]
theorem RepS.length {w : World} {C : Ctx} : ∀ {l : List AV} {vs : List Value}, RepS w C l vs → vs.length = l.length
  | [], _, h => by simp only [RepS] at h; simp [h]
  | e :: l, _, h => by
    obtain ⟨v, r, rfl, _, _, h2⟩ := h
    simp [RepS.length h2]
theorem RepS.get {w : World} {C : Ctx} : ∀ {l : List AV} {vs : List Value}, RepS w C l vs → ∀ {i : Nat} {e : AV}, l[i]? = some e → ∃ v, vs[i]? = some v ∧ v.oneCell' = true ∧ Rep w C e v
  | [], _, h, i, e, hi => by simp at hi
  | c :: l, _, h, 0, e, hi => by
    obtain ⟨v, r, rfl, h1, h2, _⟩ := h
    simp at hi; subst hi
    exact ⟨v, by simp, h1, h2⟩
  | c :: l, _, h, i + 1, e, hi => by
    obtain ⟨v, r, rfl, h1, h2, h3⟩ := h
    obtain ⟨u, hu⟩ := RepS.get h3 (by simpa using hi)
    exact ⟨u, by simpa using hu⟩
theorem RepL.get {w : World} {Sh : Nat → Prop} : ∀ {l : List AV} {vs : List Value}, RepL w Sh l vs → ∀ {i : Nat} {e : AV}, l[i]? = some e → ∃ v, vs[i]? = some v ∧ v.oneCell' = true ∧ RepF w Sh e v
  | [], _, h, i, e, hi => by simp at hi
  | c :: l, _, h, 0, e, hi => by
    obtain ⟨v, r, rfl, h1, h2, _⟩ := h
    simp at hi; subst hi
    exact ⟨v, by simp, h1, h2⟩
  | c :: l, _, h, i + 1, e, hi => by
    obtain ⟨v, r, rfl, h1, h2, h3⟩ := h
    obtain ⟨u, hu⟩ := RepL.get h3 (by simpa using hi)
    exact ⟨u, by simpa using hu⟩
theorem RepSU.get {w : World} {C : Ctx} : ∀ {l : List AV} {vs : List Value}, RepSU w C l vs → ∀ {i : Nat} {e : AV}, l[i]? = some e → ∃ v, vs[i]? = some v ∧ Rep w C e v
  | [], _, h, i, e, hi => by simp at hi
  | c :: l, _, h, 0, e, hi => by
    obtain ⟨v, r, rfl, h2, _⟩ := h
    simp at hi; subst hi
    exact ⟨v, by simp, h2⟩
  | c :: l, _, h, i + 1, e, hi => by
    obtain ⟨v, r, rfl, h2, h3⟩ := h
    obtain ⟨u, hu⟩ := RepSU.get h3 (by simpa using hi)
    exact ⟨u, by simpa using hu⟩
theorem RepS.drop {w : World} {C : Ctx} : ∀ (n : Nat) {l : List AV} {vs : List Value}, RepS w C l vs → RepS w C (l.drop n) (vs.drop n)
  | 0, _, _, h => by simpa using h
  | n + 1, [], _, h => by simp only [RepS] at h; simp [h, RepS]
  | n + 1, e :: l, _, h => by
    obtain ⟨v, r, rfl, _, _, h3⟩ := h
    simpa using RepS.drop n h3
theorem RepS.take {w : World} {C : Ctx} : ∀ (n : Nat) {l : List AV} {vs : List Value}, RepS w C l vs → RepS w C (l.take n) (vs.take n)
  | 0, _, _, h => by simp [RepS]
  | n + 1, [], _, h => by simp only [RepS] at h; simp [h, RepS]
  | n + 1, e :: l, _, h => by
    obtain ⟨v, r, rfl, h1, h2, h3⟩ := h
    exact ⟨v, _, rfl, h1, h2, RepS.take n h3⟩
theorem RepL.drop {w : World} {Sh : Nat → Prop} : ∀ (n : Nat) {l : List AV} {vs : List Value}, RepL w Sh l vs → RepL w Sh (l.drop n) (vs.drop n)
  | 0, _, _, h => by simpa using h
  | n + 1, [], _, h => by simp only [RepL] at h; simp [h, RepL]
  | n + 1, e :: l, _, h => by
    obtain ⟨v, r, rfl, _, _, h3⟩ := h
    simpa using RepL.drop n h3
theorem RepL.take {w : World} {Sh : Nat → Prop} : ∀ (n : Nat) {l : List AV} {vs : List Value}, RepL w Sh l vs → RepL w Sh (l.take n) (vs.take n)
  | 0, _, _, h => by simp [RepL]
  | n + 1, [], _, h => by simp only [RepL] at h; simp [h, RepL]
  | n + 1, e :: l, _, h => by
    obtain ⟨v, r, rfl, h1, h2, h3⟩ := h
    exact ⟨v, _, rfl, h1, h2, RepL.take n h3⟩
theorem RepS.append {w : World} {C : Ctx} : ∀ {l l' : List AV} {vs vs' : List Value}, RepS w C l vs → RepS w C l' vs' → RepS w C (l ++ l') (vs ++ vs')
  | [], _, _, _, h, h' => by simp only [RepS] at h; simpa [h] using h'
  | e :: l, _, _, _, h, h' => by
    obtain ⟨v, r, rfl, h1, h2, h3⟩ := h
    exact ⟨v, r ++ _, by simp, h1, h2, RepS.append h3 h'⟩
/-- An element's cells. -/
theorem RepF.cells {w : World} {Sh : Nat → Prop} {e : AV} {v : Value} (h : RepF w Sh e v) (hl : v.cells.size = e.cells.length) (h1 : ∀ u ∈ v.cells.toList, u.oneCell' = true) :
    RepL w Sh e.cells v.cells.toList := by
  cases e with
  | agg cs =>
    obtain ⟨vs, rfl, h2⟩ := h
    simpa [Value.cells, AV.cells] using h2
  | undef =>
    simp only [AV.cells, List.length_cons, List.length_nil] at hl ⊢
    cases hv : v.cells.toList with
    | nil => have : v.cells.toList.length = 1 := by simpa using hl
             rw [hv] at this; cases this
    | cons u r =>
      have : v.cells.toList.length = 1 := by simpa using hl
      rw [hv] at this
      have hr : r = [] := by cases r with
        | nil => rfl
        | cons => simp at this
      subst hr
      exact ⟨u, [], rfl, h1 u (by rw [hv]; simp), trivial, rfl⟩
  | int k n => simp only [RepF] at h; subst h; exact ⟨_, [], rfl, rfl, rfl, rfl⟩
  | bool b => simp only [RepF] at h; subst h; exact ⟨_, [], rfl, rfl, rfl, rfl⟩
  | str l => simp only [RepF] at h; subst h; exact ⟨_, [], rfl, rfl, rfl, rfl⟩
  | nilp => simp only [RepF] at h; subst h; exact ⟨_, [], rfl, rfl, rfl, rfl⟩
  | nilf => simp only [RepF] at h; subst h; exact ⟨_, [], rfl, rfl, rfl, rfl⟩
  | yl => simp only [RepF] at h; subst h; exact ⟨_, [], rfl, rfl, rfl, rfl⟩
  | ptr => exact h.elim
  | bsl => exact h.elim
  | ghost => exact h.elim
  | hid => exact h.elim
  | itp => exact h.elim
  | fn f cap =>
    have h' := h
    obtain ⟨vs, rfl, _⟩ := h
    exact ⟨_, [], rfl, rfl, h', rfl⟩
  | tup cs =>
    obtain ⟨vs, rfl, _⟩ := h
    have := h1 (.tuple vs.toArray) (by simp [Value.cells])
    cases this
  | sl o nb sz l =>
    have h' := h
    cases o with
    | some p => exact h.elim
    | none =>
      rcases h with ⟨_, _, rfl⟩ | ⟨_, _, _, _, _, _, rfl, _⟩
      · exact ⟨_, [], rfl, rfl, h', rfl⟩
      · exact ⟨_, [], rfl, rfl, h', rfl⟩
  | eptr o sz l i off =>
    have h' := h
    cases o with
    | some p => exact h.elim
    | none =>
      obtain ⟨_, _, _, rfl, _⟩ := h
      exact ⟨_, [], rfl, rfl, h', rfl⟩
end Go.VS
namespace Go.VS
set_option linter.unusedVariables false
set_option linter.unusedSimpArgs false
set_option linter.unusedSectionVars false
open Go
/-- unicode/utf8.first: of each first byte what stands in Go's table. -/
def firstN : List Nat :=
  List.replicate 128 240 ++ List.replicate 64 241 ++ List.replicate 2 241 ++ List.replicate 30 2 ++ [19] ++ List.replicate 12 3 ++ [35] ++ List.replicate 2 3 ++ [52] ++ List.replicate 3 4 ++ [68] ++ List.replicate 11 241
/-- unicode/utf8.acceptRanges: from where to where. -/
def acceptN : List Nat := [128, 191, 160, 191, 128, 159, 144, 191, 128, 143] ++ List.replicate 22 0
def n8 (n : Nat) : AV := .int .u8 (n : Int)
/-- The tables of Go's library that the program reads, by their blocks: their cells. -/
def tabLook : Nat → Option (List AV)
  | 0 => some (firstN.map n8)
  | 1 => some (acceptN.map n8)
  | _ => none
theorem tab0 : tabLook 0 = some (firstN.map n8) := rfl
theorem tab1 : tabLook 1 = some (acceptN.map n8) := rfl
end Go.VS
namespace Go.VS
set_option linter.unusedVariables false
set_option linter.unusedSimpArgs false
set_option linter.unusedSectionVars false
open Go
structure St where
  s : Nat → AV
  bx : Nat → Option (List AV)
  cons : Stamp → Bool
  frz : Stamp → Bool
  made : Nat → Bool
  res : Nat → Option Stamp
/-- The tables lie where they lie, and nobody writes them. -/
def tblOk (w : World) (Sh : Nat → Prop) : Prop := ∀ g cs, tabLook g = some cs → Sh g ∧ 0 < cs.length ∧ ∃ vs, cellsAt w g 0 vs ∧ RepL w Sh cs vs
theorem tblOk.keep {w w' : World} {Sh Sh' : Nat → Prop} (hs : ∀ b, Sh b → Sh' b ∧ w'.heap[b]? = w.heap[b]?) (h : tblOk w Sh) : tblOk w' Sh' := fun g cs hg => by
  obtain ⟨h1, h2, vs, h3, h4⟩ := h g cs hg
  exact ⟨(hs g h1).1, h2, vs, h3.keep (hs g h1).2, RepL.keep hs cs vs h4⟩
/-- Where a call began: its world, what was shared, what it may write of what was there. -/
structure Ent where
  w0 : World
  Sh0 : Nat → Prop
  own0 : Nat → Prop
  n : Nat
  inB : Nat → Option Nat := fun _ => none
  inBig : ∀ id b, inB id = some b → 1000000 ≤ id := by (intro _ _ h; cases h)
  /-- Is it a round of a loop over an iterator? an iterator? one that defers a call? -/
  round : Option Nat := none
  it : Bool := false
  dm : Bool := false
  /-- What an iterator's caller says of its own, while the iterator is at work: by the loop, whether it has ended it, what has come, what is to come. -/
  J : Nat → Bool → List AV → List AV → (Nat → Prop) → (Nat → Prop) → World → Prop := fun _ _ _ _ _ _ _ => False
  tab : tblOk w0 Sh0
  sh0 : ∀ b, Sh0 b → b < w0.heap.size ∧ ¬ own0 b
def Ent.mine (X : Ent) (b : Nat) : Prop := X.w0.heap.size ≤ b ∨ X.own0 b
structure MemOk (X : Ent) (frz : Stamp → Bool) (C : Ctx) (w : World) : Prop where
  shIn : ∀ b, C.Sh b → b < w.heap.size
  shFrom : ∀ b, C.Sh b → X.Sh0 b ∨ X.mine b
  shOld : ∀ b, X.Sh0 b → C.Sh b
  ownIn : ∀ g b base, C.own g = .live b base → b < w.heap.size
  ownOne : ∀ g g' b base base', C.own g = .live b base → C.own g' = .live b base' → frz g = false → g = g'
  ownBox : ∀ g b base id, C.own g = .live b base → frz g = false → C.box id = some b → False
  ownSh : ∀ g b base, C.own g = .live b base → frz g = false → C.Sh b → False
  ownFrz : ∀ g b base, C.own g = .live b base → frz g = true → C.Sh b
  ownMine : ∀ g b base, C.own g = .live b base → frz g = false → X.mine b
  boxIn : ∀ id b, C.box id = some b → b < w.heap.size
  boxOne : ∀ id id' b, C.box id = some b → C.box id' = some b → id = id'
  boxSh : ∀ id b, C.box id = some b → C.Sh b → False
  boxMine : ∀ id b, C.box id = some b → X.mine b
  kept : ∀ b, b < X.w0.heap.size → ¬ X.own0 b → w.heap[b]? = X.w0.heap[b]?
  size : X.w0.heap.size ≤ w.heap.size
  os : w.os = X.w0.os
  tape : w.tape = X.w0.tape
  output : w.output = X.w0.output
  inB : ∀ id b, X.inB id = some b → C.box id = some b := by first | exact m.inB | exact fun id b h => m.inB id b h | exact ma.inB | (intro _ _ h; cases h)
theorem MemOk.tab {X : Ent} {frz : Stamp → Bool} {C : Ctx} {w : World} (m : MemOk X frz C w) : tblOk w C.Sh :=
  X.tab.keep fun b hb => ⟨m.shOld b hb, m.kept b (X.sh0 b hb).1 (X.sh0 b hb).2⟩
/-- A box: its block, and what it holds. -/
def BoxAt (w : World) (C : Ctx) (id : Nat) (cs : List AV) : Prop :=
  ∃ b c e lo hi, C.box id = some b ∧ w.heap[b]? = some (.cells c e (lo, hi)) ∧ (∀ o, o < c.size → ¬ (lo ≤ o ∧ o < hi)) ∧ RepS w C cs c.toList
/-- What one may write. -/
def Touch (frz : Stamp → Bool) (C : Ctx) (b : Nat) : Prop := (∃ g base, C.own g = .live b base ∧ frz g = false) ∨ ∃ id, C.box id = some b
theorem MemOk.touch {X : Ent} {frz : Stamp → Bool} {C : Ctx} {w : World} (m : MemOk X frz C w) {b : Nat} (h : Touch frz C b) : X.mine b ∧ b < w.heap.size ∧ ¬ C.Sh b := by
  rcases h with ⟨g, base, h1, h2⟩ | ⟨id, h1⟩
  · exact ⟨m.ownMine g b base h1 h2, m.ownIn g b base h1, m.ownSh g b base h1 h2⟩
  · exact ⟨m.boxMine id b h1, m.boxIn id b h1, m.boxSh id b h1⟩
/-- The world goes on; what a caller looks at lies as it lay. -/
structure Ext (mine : Nat → Prop) (M S : Nat → Prop) (w w' : World) : Prop where
  size : w.heap.size ≤ w'.heap.size
  keep : ∀ b, b < w.heap.size → M b ∨ S b ∨ ¬ mine b → w'.heap[b]? = w.heap[b]?
  os : w'.os = w.os
  tape : w'.tape = w.tape
  output : w'.output = w.output
theorem Ext.refl {mine M S : Nat → Prop} (w : World) : Ext mine M S w w := ⟨Nat.le_refl _, fun _ _ _ => rfl, rfl, rfl, rfl⟩
theorem Ext.trans {mine M S : Nat → Prop} {w w' w'' : World} (h : Ext mine M S w w') (h' : Ext mine M S w' w'') : Ext mine M S w w'' :=
  ⟨Nat.le_trans h.size h'.size, fun b hb hk => (h'.keep b (Nat.lt_of_lt_of_le hb h.size) hk).trans (h.keep b hb hk), h'.os.trans h.os, h'.tape.trans h.tape, h'.output.trans h.output⟩
def collD (r : Nat) : Deferred := { target := .collected r, args := #[] }
def MarkOk (X : Ent) (C : Ctx) (w : World) (r : Nat) : Prop := w.heap[r]? = some (.deferred (some [])) ∧ X.w0.heap.size ≤ r ∧ C.fo r ∧ ¬ C.Sh r
def isHid : AV → Bool
  | .hid _ => true
  | _ => false
/-- A deferred call, as the slot behind the last one has it. -/
def FD (w : World) (C : Ctx) (v : AV) (ds : List Deferred) : Prop :=
  match v with
  | .hid .undef => ds = []
  | .hid (.fn f cap) => ∃ vs : List Value, ds = [{ target := .fn (.func f) vs.toArray, args := #[] }] ∧ RepS w C cap vs
  | .hid _ => False
  | _ => True
/-- What the caller of an iterator says, and where; or a text that is gone over: what has come of it, and what is to come. -/
def FG (X : Ent) (v : AV) (C : Ctx) (w : World) : Prop :=
  match v with
  | .ghost l stop done todo => X.it = true ∧ ∃ M S, (∀ w', Ext X.mine M S w w' → X.J l stop done todo M S w') ∧ (∀ b, M b ∨ S b → C.fo b) ∧ (∀ b, M b → X.mine b) ∧ (∀ b, C.Sh b → ¬ M b)
  | .itp b (some (s, r)) => w.heap[b]? = some (.stringIter ⟨(s ++ r).toArray⟩ s.length) ∧ C.fo b ∧ X.mine b ∧ ¬ C.Sh b
  | _ => True
structure Frg (X : Ent) (v : AV) (frz : Stamp → Bool) (C : Ctx) (ds : List Deferred) (w : World) : Prop where
  dm : X.dm = true → X.round = none ∧ FD w C v ds
  marks : X.dm = false → isHid v = false ∧ ∃ rs : List Nat, ds = rs.map collD ∧ (X.it = true → rs = []) ∧ rs.Nodup ∧ ∀ r ∈ rs, MarkOk X C w r
  gh : FG X v C w
  fin : ∀ b, C.fo b → b < w.heap.size
  out : ∀ b, Touch frz C b → ¬ C.fo b
/-- How the slot behind the last one may turn. -/
structure SlotTo (w : World) (C : Ctx) (w' : World) (C' : Ctx) (v v' : AV) : Prop where
  hid : isHid v = false → isHid v' = false
  gh : ∀ l s d t, v' = .ghost l s d t → v = .ghost l s d t
  si : ∀ b p, v' = .itp b p → v = .itp b p
  fd : ∀ ds, FD w C v ds → FD w' C' v' ds
theorem SlotTo.same {w w' : World} {C C' : Ctx} {v : AV} (h : ∀ (a : AV) (u : Value), Rep w C a u → Rep w' C' a u) : SlotTo w C w' C' v v where
  hid h := h
  gh _ _ _ _ e := e
  si _ _ e := e
  fd ds hd := by
    unfold FD at hd ⊢
    split at hd
    · exact hd
    · rename_i f cap
      obtain ⟨vs, h1, h2⟩ := hd
      refine ⟨vs, h1, ?_⟩
      obtain ⟨us, h3, h4⟩ := h (.agg cap) (.agg vs.toArray) ⟨vs, rfl, h2⟩
      have : vs = us := by simpa using h3
      rw [this]; exact h4
    · exact hd.elim
    · trivial
theorem SlotTo.map {w w' : World} {C C' : Ctx} {v : AV} {F : AV → AV} (h : ∀ (a : AV) (u : Value), Rep w C a u → Rep w' C' (F a) u) (h1 : ∀ v, isHid v = false → isHid (F v) = false)
    (h2 : ∀ v l s d t, F v = .ghost l s d t → v = .ghost l s d t) (h6 : ∀ v b p, F v = .itp b p → v = .itp b p) (h3 : ∀ u, F (.hid u) = .hid (F u)) (h4 : F .undef = .undef) (h5 : ∀ f cap, ∃ cap', F (.fn f cap) = .fn f cap') : SlotTo w C w' C' v (F v) where
  hid := h1 v
  gh := h2 v
  si := h6 v
  fd ds hd := by
    cases hv : isHid v with
    | false =>
      have := h1 v hv
      unfold FD
      split <;> first | trivial | (rename_i e; rw [e] at this; cases this)
    | true =>
      cases v with
      | hid u =>
        rw [h3]
        cases u with
        | undef => rw [h4]; exact hd
        | fn f cap =>
          obtain ⟨vs, e1, e2⟩ := hd
          obtain ⟨cap', e3⟩ := h5 f cap
          have := h (.fn f cap) (.func (.func f) #[] vs.toArray) ⟨vs, rfl, e2⟩
          rw [e3] at this ⊢
          obtain ⟨us, e4, e5⟩ := this
          have : vs = us := by simpa using e4
          subst this
          exact ⟨vs, e1, e5⟩
        | _ => exact hd.elim
      | _ => cases hv
theorem Frg.go {X : Ent} {v v' : AV} {frz frz' : Stamp → Bool} {C C' : Ctx} {ds : List Deferred} {w w' : World} (h : Frg X v frz C ds w) (hv : SlotTo w C w' C' v v')
    (hfo : C'.fo = C.fo) (ht : ∀ b, Touch frz' C' b → Touch frz C b ∨ ¬ C.fo b) (hsh : ∀ b, C'.Sh b → C.Sh b ∨ ¬ C.fo b)
    (hk : ∀ b, b < w.heap.size → C.fo b ∨ ¬ X.mine b → w'.heap[b]? = w.heap[b]?) (hz : w.heap.size ≤ w'.heap.size) (ho : w'.os = w.os) (hta : w'.tape = w.tape) (hou : w'.output = w.output) :
    Frg X v' frz' C' ds w' where
  dm hd := ⟨(h.dm hd).1, hv.fd _ (h.dm hd).2⟩
  marks hd := by
    obtain ⟨h1, rs, h2, h3, h4, h5⟩ := h.marks hd
    refine ⟨hv.hid h1, rs, h2, h3, h4, fun r hr => ?_⟩
    obtain ⟨k1, k2, k3, k4⟩ := h5 r hr
    exact ⟨(hk r (h.fin r k3) (.inl k3)).trans k1, k2, by rw [hfo]; exact k3, fun hs => (hsh r hs).elim k4 (fun x => x k3)⟩
  fin b hb := by rw [hfo] at hb; exact Nat.lt_of_lt_of_le (h.fin b hb) hz
  out b hb := by rw [hfo]; exact (ht b hb).elim (h.out b) id
  gh := by
    unfold FG
    split
    · rename_i l s d t
      have hg := h.gh
      rw [hv.gh l s d t rfl] at hg
      obtain ⟨h1, M, S, h2, h3, h4, h6⟩ := hg
      have ex : Ext X.mine M S w w' := ⟨hz, fun b hb hc => hk b hb (by
        rcases hc with hc | hc | hc
        · exact .inl (h3 b (.inl hc))
        · exact .inl (h3 b (.inr hc))
        · exact .inr hc), ho, hta, hou⟩
      refine ⟨h1, M, S, fun w'' e => h2 w'' (ex.trans e), fun b hb => by rw [hfo]; exact h3 b hb, h4, fun b hb hM => ?_⟩
      rcases hsh b hb with hb | hb
      · exact h6 b hb hM
      · exact hb (h3 b (.inl hM))
    · rename_i b s r
      have hg := h.gh
      rw [hv.si b (some (s, r)) rfl] at hg
      obtain ⟨h1, h2, h3, h4⟩ := hg
      exact ⟨(hk b (h.fin b h2) (.inl h2)).trans h1, by rw [hfo]; exact h2, h3, fun hb => (hsh b hb).elim h4 fun x => x h2⟩
    · trivial
structure Conc (X : Ent) (st : St) (C : Ctx) (a : Act) (w : World) : Prop where
  n : a.tmps.size = X.n
  slots : ∀ t, Rep w C (st.s t) (a.tmps.getD t undef)
  frg : Frg X (st.s X.n) st.frz C a.defers w
  boxes : ∀ id cs, st.bx id = some cs → BoxAt w C id cs
  boxSome : ∀ id b, C.box id = some b → (st.bx id).isSome = true
  mem : MemOk X st.frz C w
  cons : ∀ g, st.cons g = true ↔ C.own g = .dead
  made : ∀ d, C.own (1, d) ≠ .none → st.made d = true
  tg : ∀ d h, st.res d = some h → st.cons h = true ∧ h.1 ≠ 1
  tgInj : ∀ d d' h, st.cons (1, d) = false → st.cons (1, d') = false → st.res d = some h → st.res d' = some h → d = d'
  tgMade : ∀ d, st.made d = true → (st.res d).isSome = true
def upd {α : Type} (f : Nat → α) (d : Nat) (v : α) : Nat → α := fun t => if t = d then v else f t
def updS (f : Stamp → Bool) (g : Stamp) (v : Bool) : Stamp → Bool := fun t => if t = g then v else f t
@[simp] theorem upd_same {α : Type} (f : Nat → α) (d : Nat) (v : α) : upd f d v d = v := by simp [upd]
theorem upd_ne {α : Type} (f : Nat → α) {d t : Nat} (v : α) (h : t ≠ d) : upd f d v t = f t := by simp [upd, h]
def St.put (st : St) (d : Nat) (v : AV) : St := { st with s := upd st.s d v }
def St.putO (st : St) (d : Option Nat) (v : AV) : St :=
  match d with
  | some d => st.put d v
  | none => st
theorem getD_put (a : Act) (d t : Nat) (v : Value) (h : d < a.tmps.size) :
    (a.put (some d) v).tmps.getD t undef = if t = d then v else a.tmps.getD t undef := by
  simp only [Act.put, Array.getD_eq_getD_getElem?, Array.getElem?_setIfInBounds]
  by_cases e : t = d
  · subst e; simp [h]
  · have e' : ¬ d = t := fun x => e x.symm
    simp [e, e']
/-- A value into a slot. -/
theorem Conc.put {X : Ent} {st : St} {C : Ctx} {a : Act} {w : World} (h : Conc X st C a w) {d : Nat} (hd : d < X.n) {v : AV} {u : Value}
    (hv : Rep w C v u) : Conc X (st.put d v) C (a.put (some d) u) w where
  n := by simp [Act.put, h.n]
  slots t := by
    rw [getD_put a d t u (by rw [h.n]; exact hd)]
    simp only [St.put, upd]
    split
    · exact hv
    · exact h.slots t
  frg := by
    have e : (st.put d v).s X.n = st.s X.n := upd_ne _ _ (by omega)
    rw [e]; exact h.frg
  boxes := h.boxes
  boxSome := h.boxSome
  mem := h.mem
  cons := h.cons
  made := h.made
  tg := h.tg
  tgInj := h.tgInj
  tgMade := h.tgMade
/-- The world goes on, the context with it. -/
theorem Conc.to {X : Ent} {st : St} {C C' : Ctx} {a : Act} {w w' : World} (h : Conc X st C a w) (t : C.To w w' C')
    (hb : ∀ id b, C'.box id = some b → C.box id = some b) (hbk : ∀ id b, C.box id = some b → w'.heap[b]? = w.heap[b]?)
    (hm : MemOk X st.frz C' w') (hc : ∀ g, st.cons g = true ↔ C'.own g = .dead) (hd : ∀ d, C'.own (1, d) ≠ .none → st.made d = true) (hf : Frg X (st.s X.n) st.frz C' a.defers w') : Conc X st C' a w' where
  n := h.n
  slots k := Rep.to t _ _ (h.slots k)
  frg := hf
  boxes id cs hid := by
    obtain ⟨b, c, e, lo, hi, h1, h2, h3, h4⟩ := h.boxes id cs hid
    exact ⟨b, c, e, lo, hi, t.box id b h1, (hbk id b h1).trans h2, h3, RepS.to t cs _ h4⟩
  boxSome id b hid := h.boxSome id b (hb id b hid)
  mem := hm
  cons := hc
  made := hd
  tg := h.tg
  tgInj := h.tgInj
  tgMade := h.tgMade
/-- Only the count of draws, or nothing, has turned. -/
theorem Conc.same {X : Ent} {st : St} {C : Ctx} {a : Act} {w w' : World} (h : Conc X st C a w) (hh : w'.heap = w.heap) (ho : w'.os = w.os) (ht : w'.tape = w.tape)
    (hu : w'.output = w.output) : Conc X st C a w' := by
  have m := h.mem
  refine h.to ⟨fun b hb => ⟨hb, by rw [hh]⟩, fun _ _ hb => hb, fun g => .inr (.inr ⟨rfl, fun _ _ _ => by rw [hh]⟩)⟩ (fun _ _ hb => hb) (fun _ _ _ => by rw [hh]) ?_ h.cons h.made ?_
  exact { shIn := by rw [hh]; exact m.shIn, shFrom := m.shFrom, shOld := m.shOld, ownIn := by rw [hh]; exact m.ownIn, ownOne := m.ownOne, ownBox := m.ownBox, ownSh := m.ownSh,
          ownFrz := m.ownFrz, ownMine := m.ownMine, boxIn := by rw [hh]; exact m.boxIn, boxOne := m.boxOne, boxSh := m.boxSh, boxMine := m.boxMine, kept := by rw [hh]; exact m.kept,
          size := by rw [hh]; exact m.size, os := ho.trans m.os, tape := ht.trans m.tape, output := hu.trans m.output }
  exact h.frg.go (.same fun a u hr => Rep.to ⟨fun b hb => ⟨hb, by rw [hh]⟩, fun _ _ hb => hb, fun g => .inr (.inr ⟨rfl, fun _ _ _ => by rw [hh]⟩)⟩ a u hr) rfl (fun _ hb => .inl hb) (fun _ hb => .inl hb) (fun _ _ _ => by rw [hh]) (by rw [hh]; exact Nat.le_refl _) ho ht hu
theorem heap_alloc_ne {w : World} {o : Obj} {k : Nat} (h : k < w.heap.size) : (w.alloc o).heap[k]? = w.heap[k]? := Go.RowKit.Below.heap_alloc w o k h
theorem heap_alloc_new (w : World) (o : Obj) : (w.alloc o).heap[w.heap.size]? = some o := by
  show (w.heap.push o)[w.heap.size]? = _
  simp
theorem MemOk.alloc {X : Ent} {frz : Stamp → Bool} {C : Ctx} {w : World} (m : MemOk X frz C w) (o : Obj) : MemOk X frz C (w.alloc o) where
  shIn b hb := by have := m.shIn b hb; simp; omega
  shFrom := m.shFrom
  shOld := m.shOld
  ownIn g b base h := by have := m.ownIn g b base h; simp; omega
  ownOne := m.ownOne
  ownBox := m.ownBox
  ownSh := m.ownSh
  ownFrz := m.ownFrz
  ownMine := m.ownMine
  boxIn id b h := by have := m.boxIn id b h; simp; omega
  boxOne := m.boxOne
  boxSh := m.boxSh
  boxMine := m.boxMine
  kept b hb hn := by rw [heap_alloc_ne (Nat.lt_of_lt_of_le hb m.size)]; exact m.kept b hb hn
  size := by have := m.size; simp; omega
  os := m.os
  tape := m.tape
  output := m.output
/-- A new block that nobody looks at yet. -/
theorem Conc.alloc {X : Ent} {st : St} {C : Ctx} {a : Act} {w : World} (h : Conc X st C a w) (o : Obj) : Conc X st C a (w.alloc o) := by
  have m := h.mem
  exact h.to ⟨fun b hb => ⟨hb, heap_alloc_ne (m.shIn b hb)⟩, fun _ _ hb => hb, fun g => .inr (.inr ⟨rfl, fun b base hb => heap_alloc_ne (m.ownIn g b base hb)⟩)⟩
    (fun _ _ hb => hb) (fun id b hb => heap_alloc_ne (m.boxIn id b hb)) (m.alloc o) h.cons h.made (h.frg.go (.same fun a u hr => Rep.to ⟨fun b hb => ⟨hb, heap_alloc_ne (m.shIn b hb)⟩, fun _ _ hb => hb, fun g => .inr (.inr ⟨rfl, fun b base hb => heap_alloc_ne (m.ownIn g b base hb)⟩)⟩ a u hr)
      rfl (fun _ hb => .inl hb) (fun _ hb => .inl hb) (fun _ hb _ => heap_alloc_ne hb) (by simp) rfl rfl rfl)
theorem MemOk.grow {X : Ent} {frz : Stamp → Bool} {C : Ctx} {w w' : World} (m : MemOk X frz C w) (hs : w.heap.size ≤ w'.heap.size) (hk : ∀ k, k < w.heap.size → w'.heap[k]? = w.heap[k]?)
    (ho : w'.os = w.os) (ht : w'.tape = w.tape) (hu : w'.output = w.output) : MemOk X frz C w' where
  shIn b hb := Nat.lt_of_lt_of_le (m.shIn b hb) hs
  shFrom := m.shFrom
  shOld := m.shOld
  ownIn g b base h := Nat.lt_of_lt_of_le (m.ownIn g b base h) hs
  ownOne := m.ownOne
  ownBox := m.ownBox
  ownSh := m.ownSh
  ownFrz := m.ownFrz
  ownMine := m.ownMine
  boxIn id b h := Nat.lt_of_lt_of_le (m.boxIn id b h) hs
  boxOne := m.boxOne
  boxSh := m.boxSh
  boxMine := m.boxMine
  kept b hb hn := by rw [hk b (Nat.lt_of_lt_of_le hb m.size)]; exact m.kept b hb hn
  size := Nat.le_trans m.size hs
  os := ho.trans m.os
  tape := ht.trans m.tape
  output := hu.trans m.output
/-- New memory that nobody looks at yet. -/
theorem Conc.grow {X : Ent} {st : St} {C : Ctx} {a : Act} {w w' : World} (h : Conc X st C a w) (hs : w.heap.size ≤ w'.heap.size) (hk : ∀ k, k < w.heap.size → w'.heap[k]? = w.heap[k]?)
    (ho : w'.os = w.os) (ht : w'.tape = w.tape) (hu : w'.output = w.output) : Conc X st C a w' := by
  have m := h.mem
  exact h.to ⟨fun b hb => ⟨hb, hk b (m.shIn b hb)⟩, fun _ _ hb => hb, fun g => .inr (.inr ⟨rfl, fun b base hb => hk b (m.ownIn g b base hb)⟩)⟩
    (fun _ _ hb => hb) (fun id b hb => hk b (m.boxIn id b hb)) (m.grow hs hk ho ht hu) h.cons h.made (h.frg.go (.same fun a u hr => Rep.to ⟨fun b hb => ⟨hb, hk b (m.shIn b hb)⟩, fun _ _ hb => hb, fun g => .inr (.inr ⟨rfl, fun b base hb => hk b (m.ownIn g b base hb)⟩)⟩ a u hr)
      rfl (fun _ hb => .inl hb) (fun _ hb => .inl hb) (fun b hb _ => hk b hb) hs ho ht hu)
def updO (f : Stamp → Own) (g : Stamp) (v : Own) : Stamp → Own := fun t => if t = g then v else f t
/-- A new name for a block that is new: nobody else knows it. -/
theorem Conc.ownNew {X : Ent} {st : St} {C : Ctx} {a : Act} {w : World} (h : Conc X st C a w) {d b base : Nat} {t0 : Stamp} (hb : b < w.heap.size)
    (hmine : X.mine b) (hfree : st.made d = false) (hfrz : st.frz (1, d) = false) (hsh : ¬ C.Sh b) (hbox : ∀ id, C.box id ≠ some b) (hown : ∀ g bs, C.own g ≠ .live b bs) (hfo : ¬ C.fo b)
    (ht0 : st.cons t0 = true) (ht1 : t0.1 ≠ 1) (htj : ∀ k, st.cons (1, k) = false → st.res k = some t0 → False) :
    Conc X { st with made := upd st.made d true, res := upd st.res d (some t0) } { C with own := updO C.own (1, d) (.live b base) } a w := by
  have m := h.mem
  have hnone : C.own (1, d) = .none := by
    cases e : C.own (1, d) with
    | none => rfl
    | dead => have := h.made d (by rw [e]; simp); rw [hfree] at this; cases this
    | live b base => have := h.made d (by rw [e]; simp); rw [hfree] at this; cases this
  have t : C.To w w { C with own := updO C.own (1, d) (.live b base) } :=
    ⟨fun _ hb => ⟨hb, rfl⟩, fun _ _ hb => hb, fun g => by
      by_cases e : g = (1, d)
      · subst e; exact .inl hnone
      · exact .inr (.inr ⟨by simp [updO, e], fun _ _ _ => rfl⟩)⟩
  have hres : ∀ k, k ≠ d → upd st.res d (some t0) k = st.res k := fun k hk => upd_ne _ _ hk
  have htg : ∀ k x, upd st.res d (some t0) k = some x → st.cons x = true ∧ x.1 ≠ 1 := by
    intro k x hx
    by_cases e : k = d
    · subst e; simp at hx; subst hx; exact ⟨ht0, ht1⟩
    · rw [hres k e] at hx; exact h.tg k x hx
  have htgI : ∀ k k' x, st.cons (1, k) = false → st.cons (1, k') = false → upd st.res d (some t0) k = some x → upd st.res d (some t0) k' = some x → k = k' := by
    intro k k' x c c' hx hx'
    by_cases e : k = d <;> by_cases e' : k' = d
    · rw [e, e']
    · subst e; simp at hx; subst hx; rw [hres k' e'] at hx'; exact (htj k' c' hx').elim
    · subst e'; simp at hx'; subst hx'; rw [hres k e] at hx; exact (htj k c hx).elim
    · rw [hres k e] at hx; rw [hres k' e'] at hx'; exact h.tgInj k k' x c c' hx hx'
  have htgM : ∀ k, upd st.made d true k = true → (upd st.res d (some t0) k).isSome = true := by
    intro k hk
    by_cases e : k = d
    · subst e; simp
    · rw [hres k e]; rw [upd_ne _ _ e] at hk; exact h.tgMade k hk
  refine { n := h.n, slots := fun k => Rep.to t _ _ (h.slots k), frg := ?_, boxes := ?_, boxSome := h.boxSome, mem := ?_, cons := ?_, made := ?_, tg := htg, tgInj := htgI, tgMade := htgM }
  · refine h.frg.go (.same fun a u hr => Rep.to t a u hr) rfl (fun b' hb' => ?_) (fun _ hb => .inl hb) (fun _ _ _ => rfl) (Nat.le_refl _) rfl rfl rfl
    rcases hb' with ⟨g, bs, hg, hf⟩ | hb'
    · by_cases e : g = (1, d)
      · simp [updO, e] at hg; exact .inr (by rw [← hg.1]; exact hfo)
      · simp [updO, e] at hg; exact .inl (.inl ⟨g, bs, hg, hf⟩)
    · exact .inl (.inr hb')
  · intro id cs hid
    obtain ⟨b, c, e, lo, hi, h1, h2, h3, h4⟩ := h.boxes id cs hid
    exact ⟨b, c, e, lo, hi, h1, h2, h3, RepS.to t cs _ h4⟩
  · refine { shIn := m.shIn, shFrom := m.shFrom, shOld := m.shOld, ownIn := ?_, ownOne := ?_, ownBox := ?_, ownSh := ?_, ownFrz := ?_, ownMine := ?_, boxIn := m.boxIn, boxOne := m.boxOne,
             boxSh := m.boxSh, boxMine := m.boxMine, kept := m.kept, size := m.size, os := m.os, tape := m.tape, output := m.output }
    · intro g b' base' hg
      by_cases e : g = (1, d)
      · simp [updO, e] at hg; omega
      · simp [updO, e] at hg; exact m.ownIn g b' base' hg
    · intro g g' b' base' base'' hg hg' hf
      by_cases e : g = (1, d) <;> by_cases e' : g' = (1, d)
      · rw [e, e']
      · simp [updO, e] at hg; simp [updO, e'] at hg'
        obtain ⟨rfl, rfl⟩ := hg
        exact absurd hg' (hown g' _)
      · simp [updO, e] at hg; simp [updO, e'] at hg'
        obtain ⟨rfl, rfl⟩ := hg'
        exact absurd hg (hown g _)
      · simp [updO, e] at hg; simp [updO, e'] at hg'
        exact m.ownOne g g' b' base' base'' hg hg' hf
    · intro g b' base' id hg hf hid
      by_cases e : g = (1, d)
      · simp [updO, e] at hg; obtain ⟨rfl, rfl⟩ := hg; exact hbox id hid
      · simp [updO, e] at hg; exact m.ownBox g b' base' id hg hf hid
    · intro g b' base' hg hf hs
      by_cases e : g = (1, d)
      · simp [updO, e] at hg; obtain ⟨rfl, rfl⟩ := hg; exact hsh hs
      · simp [updO, e] at hg; exact m.ownSh g b' base' hg hf hs
    · intro g b' base' hg hf
      by_cases e : g = (1, d)
      · subst e; rw [hfrz] at hf; cases hf
      · simp [updO, e] at hg; exact m.ownFrz g b' base' hg hf
    · intro g b' base' hg hf
      by_cases e : g = (1, d)
      · simp [updO, e] at hg; obtain ⟨rfl, rfl⟩ := hg; exact hmine
      · simp [updO, e] at hg; exact m.ownMine g b' base' hg hf
  · intro g
    by_cases e : g = (1, d)
    · have hc := h.cons (1, d)
      rw [hnone] at hc
      subst e
      simp only [updO, if_true]
      constructor
      · intro x; have := hc.1 x; cases this
      · intro x; cases x
    · simp only [updO, e, if_false]; exact h.cons g
  · intro k hk
    simp only [upd]
    by_cases e : k = d
    · simp [e]
    · have e' : ¬ ((1, k) : Stamp) = (1, d) := by simp [e]
      simp only [updO, e', if_false] at hk
      simp [e, h.made k hk]
/-- A name dies. -/
theorem Conc.kill {X : Ent} {st : St} {C : Ctx} {a : Act} {w : World} (h : Conc X st C a w) (g : Stamp) (hm : g.1 = 1 → st.made g.2 = true) :
    Conc X { st with cons := updS st.cons g true } { C with own := updO C.own g .dead } a w := by
  have m := h.mem
  have t : C.To w w { C with own := updO C.own g .dead } :=
    ⟨fun _ hb => ⟨hb, rfl⟩, fun _ _ hb => hb, fun g' => by
      by_cases e : g' = g
      · subst e; exact .inr (.inl (by simp [updO]))
      · exact .inr (.inr ⟨by simp [updO, e], fun _ _ _ => rfl⟩)⟩
  have old' : ∀ g', updS st.cons g true g' = false → st.cons g' = false := by
    intro g' hg
    simp only [updS] at hg
    split at hg
    · cases hg
    · exact hg
  have old : ∀ g' b base, updO C.own g .dead g' = .live b base → C.own g' = .live b base := by
    intro g' b base hg
    by_cases e : g' = g
    · simp [updO, e] at hg
    · simpa [updO, e] using hg
  refine { n := h.n, slots := fun k => Rep.to t _ _ (h.slots k), frg := ?_, boxes := ?_, boxSome := h.boxSome, mem := ?_, cons := ?_, made := ?_, tg := fun k x hx => ⟨by simp only [updS]; split <;> simp [(h.tg k x hx).1], (h.tg k x hx).2⟩, tgInj := fun k k' x c c' hx hx' => h.tgInj k k' x (old' _ c) (old' _ c') hx hx', tgMade := h.tgMade }
  · refine h.frg.go (.same fun a u hr => Rep.to t a u hr) rfl (fun b' hb' => ?_) (fun _ hb => .inl hb) (fun _ _ _ => rfl) (Nat.le_refl _) rfl rfl rfl
    rcases hb' with ⟨g', bs, hg, hf⟩ | hb'
    · exact .inl (.inl ⟨g', bs, old _ _ _ hg, hf⟩)
    · exact .inl (.inr hb')
  · intro id cs hid
    obtain ⟨b, c, e, lo, hi, h1, h2, h3, h4⟩ := h.boxes id cs hid
    exact ⟨b, c, e, lo, hi, h1, h2, h3, RepS.to t cs _ h4⟩
  · exact { shIn := m.shIn, shFrom := m.shFrom, shOld := m.shOld, ownIn := fun g' b base hg => m.ownIn g' b base (old _ _ _ hg),
            ownOne := fun g1 g2 b b1 b2 h1 h2 hf => m.ownOne g1 g2 b b1 b2 (old _ _ _ h1) (old _ _ _ h2) hf,
            ownBox := fun g' b base id hg => m.ownBox g' b base id (old _ _ _ hg), ownSh := fun g' b base hg => m.ownSh g' b base (old _ _ _ hg),
            ownFrz := fun g' b base hg => m.ownFrz g' b base (old _ _ _ hg), ownMine := fun g' b base hg => m.ownMine g' b base (old _ _ _ hg), boxIn := m.boxIn, boxOne := m.boxOne,
            boxSh := m.boxSh, boxMine := m.boxMine, kept := m.kept, size := m.size, os := m.os, tape := m.tape, output := m.output }
  · intro g'
    simp only [updS, updO]
    by_cases e : g' = g
    · simp [e]
    · simp only [e, if_false]; exact h.cons g'
  · intro k hk
    by_cases e : ((1, k) : Stamp) = g
    · have := hm (by rw [← e]); rw [← e] at this; exact this
    · simp only [updO, e, if_false] at hk; exact h.made k hk
/-- What a name owns is shared from now on. -/
theorem Conc.freeze {X : Ent} {st : St} {C : Ctx} {a : Act} {w : World} (h : Conc X st C a w) (g : Stamp) (hg : st.cons g = false) :
    ∃ C', Conc X { st with frz := updS st.frz g true } C' a w ∧ C.To w w C' ∧ C'.own = C.own ∧ C'.box = C.box ∧ (∀ b base, C.own g = .live b base → C'.Sh b) := by
  have m := h.mem
  refine ⟨{ C with Sh := fun b => C.Sh b ∨ ∃ base, C.own g = .live b base }, ?_, ⟨fun b hb => ⟨.inl hb, rfl⟩, fun _ _ hb => hb, fun g' => .inr (.inr ⟨rfl, fun _ _ _ => rfl⟩)⟩, rfl, rfl, fun b base hb => .inr ⟨base, hb⟩⟩
  have t : C.To w w { C with Sh := fun b => C.Sh b ∨ ∃ base, C.own g = .live b base } := ⟨fun b hb => ⟨.inl hb, rfl⟩, fun _ _ hb => hb, fun g' => .inr (.inr ⟨rfl, fun _ _ _ => rfl⟩)⟩
  have fz : ∀ g', updS st.frz g true g' = false → g' ≠ g ∧ st.frz g' = false := by
    intro g' hf
    by_cases e : g' = g
    · simp [updS, e] at hf
    · exact ⟨e, by simpa [updS, e] using hf⟩
  have frg : Frg X (st.s X.n) (updS st.frz g true) { C with Sh := fun b => C.Sh b ∨ ∃ base, C.own g = .live b base } a.defers w := by
    refine h.frg.go (.same fun a u hr => Rep.to t a u hr) rfl (fun b' hb' => ?_) (fun b hb => ?_) (fun _ _ _ => rfl) (Nat.le_refl _) rfl rfl rfl
    · rcases hb' with ⟨g', bs, hg, hf⟩ | hb'
      · exact .inl (.inl ⟨g', bs, hg, (fz _ hf).2⟩)
      · exact .inl (.inr hb')
    · rcases hb with hb | ⟨base, hb⟩
      · exact .inl hb
      · by_cases hfg : st.frz g = true
        · exact .inl (m.ownFrz g b base hb hfg)
        · exact .inr (h.frg.out b (.inl ⟨g, base, hb, by simpa using hfg⟩))
  by_cases hfg : st.frz g = true
  · -- it was so already
    have same : ∀ b base, C.own g = .live b base → C.Sh b := fun b base hb => m.ownFrz g b base hb hfg
    refine { n := h.n, slots := fun k => Rep.to t _ _ (h.slots k), frg := frg, boxes := ?_, boxSome := h.boxSome, mem := ?_, cons := h.cons, made := h.made, tg := h.tg, tgInj := h.tgInj, tgMade := h.tgMade }
    · intro id cs hid
      obtain ⟨b, c, e, lo, hi, h1, h2, h3, h4⟩ := h.boxes id cs hid
      exact ⟨b, c, e, lo, hi, h1, h2, h3, RepS.to t cs _ h4⟩
    · have sh : ∀ b, (C.Sh b ∨ ∃ base, C.own g = .live b base) → C.Sh b := fun b hb => hb.elim id fun ⟨base, hb⟩ => same b base hb
      exact { shIn := fun b hb => m.shIn b (sh b hb), shFrom := fun b hb => m.shFrom b (sh b hb), shOld := fun b hb => .inl (m.shOld b hb), ownIn := m.ownIn,
              ownOne := fun g1 g2 b b1 b2 h1 h2 hf => m.ownOne g1 g2 b b1 b2 h1 h2 (fz _ hf).2, ownBox := fun g' b base id hg' hf => m.ownBox g' b base id hg' (fz _ hf).2,
              ownSh := fun g' b base hg' hf hs => m.ownSh g' b base hg' (fz _ hf).2 (sh b hs),
              ownFrz := fun g' b base hg' hf => by
                by_cases e : g' = g
                · subst e; exact .inr ⟨base, hg'⟩
                · exact .inl (m.ownFrz g' b base hg' (by simpa [updS, e] using hf)),
              ownMine := fun g' b base hg' hf => m.ownMine g' b base hg' (fz _ hf).2, boxIn := m.boxIn, boxOne := m.boxOne, boxSh := fun id b hb hs => m.boxSh id b hb (sh b hs),
              boxMine := m.boxMine, kept := m.kept, size := m.size, os := m.os, tape := m.tape, output := m.output }
  · have hfg' : st.frz g = false := by simpa using hfg
    refine { n := h.n, slots := fun k => Rep.to t _ _ (h.slots k), frg := frg, boxes := ?_, boxSome := h.boxSome, mem := ?_, cons := h.cons, made := h.made, tg := h.tg, tgInj := h.tgInj, tgMade := h.tgMade }
    · intro id cs hid
      obtain ⟨b, c, e, lo, hi, h1, h2, h3, h4⟩ := h.boxes id cs hid
      exact ⟨b, c, e, lo, hi, h1, h2, h3, RepS.to t cs _ h4⟩
    · exact { shIn := fun b hb => hb.elim (m.shIn b) fun ⟨base, hb⟩ => m.ownIn g b base hb,
              shFrom := fun b hb => hb.elim (m.shFrom b) fun ⟨base, hb⟩ => .inr (m.ownMine g b base hb hfg'), shOld := fun b hb => .inl (m.shOld b hb), ownIn := m.ownIn,
              ownOne := fun g1 g2 b b1 b2 h1 h2 hf => m.ownOne g1 g2 b b1 b2 h1 h2 (fz _ hf).2, ownBox := fun g' b base id hg' hf => m.ownBox g' b base id hg' (fz _ hf).2,
              ownSh := fun g' b base hg' hf hs => hs.elim (m.ownSh g' b base hg' (fz _ hf).2) fun ⟨base', hb⟩ => (fz _ hf).1 (m.ownOne g' g b base base' hg' hb (fz _ hf).2),
              ownFrz := fun g' b base hg' hf => by
                by_cases e : g' = g
                · subst e; exact .inr ⟨base, hg'⟩
                · exact .inl (m.ownFrz g' b base hg' (by simpa [updS, e] using hf)),
              ownMine := fun g' b base hg' hf => m.ownMine g' b base hg' (fz _ hf).2, boxIn := m.boxIn, boxOne := m.boxOne,
              boxSh := fun id b hb hs => hs.elim (m.boxSh id b hb) fun ⟨base, hb'⟩ => m.ownBox g b base id hb' hfg' hb,
              boxMine := m.boxMine, kept := m.kept, size := m.size, os := m.os, tape := m.tape, output := m.output }
end Go.VS
