/- Part of a framework that states what Go functions answer on values as data; it holds for every program of the model. -/
import Derived.Test.YtedjcbdhafmjiaaVsOwn
import Derived.Deep.Upon
namespace Go.VS
set_option linter.unusedVariables false
set_option linter.unusedSimpArgs false
set_option linter.unusedSectionVars false
open Go
variable {P : Program}

/-- A target for a name, in the middle of a region. -/
theorem Conc.mark {X : Ent} {st : St} {C : Ctx} {a : Act} {w : World} (h : Conc X st C a w) {d : Nat} {t0 : Stamp} (hfree : st.made d = false)
    (ht0 : st.cons t0 = true) (ht1 : t0.1 ≠ 1) (htj : ∀ k, st.cons (1, k) = false → st.res k = some t0 → False) :
    Conc X { st with made := upd st.made d true, res := upd st.res d (some t0) } C a w := by
  have hres : ∀ k, k ≠ d → upd st.res d (some t0) k = st.res k := fun k hk => upd_ne _ _ hk
  refine { n := h.n, slots := h.slots, defers := h.defers, boxes := h.boxes, boxSome := h.boxSome, mem := h.mem, cons := h.cons, made := ?_, tg := ?_, tgInj := ?_, tgMade := ?_ }
  · intro k hk
    by_cases e : k = d
    · subst e; simp
    · have := h.made k hk; simp only [upd_ne _ _ e]; exact this
  · intro k x hx
    by_cases e : k = d
    · subst e; simp at hx; subst hx; exact ⟨ht0, ht1⟩
    · simp only [hres k e] at hx; exact h.tg k x hx
  · intro k k' x c c' hx hx'
    by_cases e : k = d <;> by_cases e' : k' = d
    · rw [e, e']
    · subst e; simp at hx; subst hx; simp only [hres k' e'] at hx'; exact (htj k' c' hx').elim
    · subst e'; simp at hx'; subst hx'; simp only [hres k e] at hx; exact (htj k c hx).elim
    · simp only [hres k e] at hx; simp only [hres k' e'] at hx'; exact h.tgInj k k' x c c' hx hx'
  · intro k hk
    by_cases e : k = d
    · subst e; simp
    · simp only [hres k e]; simp only [upd_ne _ _ e] at hk; exact h.tgMade k hk

/-- The elements that are appended. -/
def srcOf (P : Program) (st : St) (tx : TypeId) (sz : Nat) (x : AV) : Option (List AV) :=
  match x with
  | .sl o nb sz' l =>
    match P.underlying tx with
    | some (.slice _) => need (st.alive o = true ∧ (nb = true ∨ sz' = sz)) (some l)
    | _ => none
  | .str s =>
    match P.underlying tx with
    | some .string => need (sz = 1) (some (s.map u8))
    | _ => none
  | .bsl id off len _ =>
    match P.underlying tx with
    | some (.slice _) => (st.bx id).bind fun cs => need (sz = 1 ∧ off + len ≤ cs.length ∧ frozableL ((cs.drop off).take len) = true ∧ stampsL ((cs.drop off).take len) = [] ∧
        (((cs.drop off).take len).all fun c => c.cells.length = 1 && st.one c) = true) (some (frozL ((cs.drop off).take len)))
    | _ => none
  | _ => none

theorem RepRow.of_one {w : World} {Sh : Nat → Prop} : ∀ {l : List AV} {vs : List Value}, RepL w Sh l vs → RepRow w Sh 1 l vs
  | [], _, h => h
  | c :: cs, _, h => by
    obtain ⟨v, r, rfl, h1, h2, h3⟩ := h
    have hv : v.cells = #[v] := by cases v <;> first | rfl | (simp [Value.oneCell'] at h1)
    exact ⟨v, r, by simp [hv], by simp [hv], by simp [hv, h1], h2, RepRow.of_one h3⟩

theorem row_bytes {w : World} {Sh : Nat → Prop} (s : List UInt8) : RepRow w Sh 1 (s.map u8) (byteCells ⟨s.toArray⟩) := by
  apply RepRow.of_one
  induction s with
  | nil => simp [byteCells, RepL]
  | cons c s ih => exact ⟨.int .u8 c.toNat, byteCells ⟨s.toArray⟩, by simp [byteCells], rfl, rfl, ih⟩

theorem srcOf_ok {X : Ent} {st : St} {C : Ctx} {a : Act} {w : World} (hc : Conc X st C a w) {tx : TypeId} {sz : Nat} {x : AV} {l : List AV} (h : srcOf P st tx sz x = some l) {u : Value} (hr : Rep w C x u) :
    ∃ news, Src P sz tx u l.length news w ∧ RepRow w C.Sh sz l news := by
  unfold srcOf at h
  split at h
  · rename_i o nb sz' l'
    split at h
    · rename_i E hT
      obtain ⟨⟨ha, hs⟩, h'⟩ := need_some h
      cases h'
      rcases rep_sl_read hc.cons hr ha with ⟨_, rfl, rfl⟩ | ⟨hn, b, off, cap, vs, sp, rfl, hlc, hsp, h4, h5⟩
      · exact ⟨[], Src.ofNil w hT 0, rfl⟩
      · have hsz : sz' = sz := hs.resolve_left (by simp [hn])
        subst hsz
        exact ⟨vs, Src.ofSlice w hT _ _ _ _ h5.length (fun j v hj => by
          rcases hsp with hsp | rfl
          · rw [hsp] at hj; simp at hj
          · rw [Addr.add_mid]; exact h4 j v hj) h5.one, h5⟩
    · cases h
  · rename_i s
    split at h
    · rename_i hT
      obtain ⟨rfl, h'⟩ := need_some h
      cases h'
      simp only [Rep] at hr; subst hr
      have := Src.ofString w (P := P) hT ⟨s.toArray⟩
      refine ⟨_, by simpa [ByteArray.size] using this, row_bytes s⟩
    · cases h
  · rename_i id off len cap
    split at h
    · rename_i E hT
      obtain ⟨cs, hcs, h'⟩ := Option.bind_eq_some_iff.1 h
      obtain ⟨⟨rfl, hl, hf, hst, hone⟩, h''⟩ := need_some h'
      cases h''
      obtain ⟨b, hb, rfl, _⟩ := hr
      obtain ⟨b', vs, hb', h1, h2⟩ := RepS_of_box (hc.boxes _ _ hcs)
      obtain rfl : b = b' := by rw [hb] at hb'; exact Option.some.inj hb'
      have hcut := (h2.drop off).take len
      have hlen := h2.length
      have hF := frozL_ok (w := w) (C := C) _ _ hf (by rw [hst]; simp) hcut
      have hrow := RepRow.of_one hF
      have e1 : (frozL ((cs.drop off).take len)).length = len := by
        have := hF.length; simp at this; omega
      refine ⟨_, ?_, hrow⟩
      rw [e1]
      refine Src.ofSlice w hT _ _ _ _ (by simp; omega) (fun j v hj => ?_) hrow.one
      rw [Addr.add_mid]
      have := ((h1.drop off).take len) j v hj
      simpa using this
    · cases h
  · cases h
end Go.VS
