/- Part of a framework that states what Go functions answer on values as data; it holds for every program of the model. -/
import Derived.Test.YtijcpdgfbboamaaDoorVsElem2
namespace Go.VS
set_option linter.unusedVariables false
set_option linter.unusedSimpArgs false
set_option linter.unusedSectionVars false
open Go
variable {P : Program}

/-! ### Bytes out of a text that is written out -/

/-- A block is marked behind its end: its cells are as they were. -/
structure Marked (w w' : World) (b : Nat) : Prop where
  other : ∀ b', b' ≠ b → w'.heap[b']? = w.heap[b']?
  at_ : ∀ (o : Nat) (v : Value), w.cell? ⟨b, o, none⟩ = some v → w'.cell? ⟨b, o, none⟩ = some v
  open_ : ∀ n, openBlock w b n → openBlock w' b n

section
variable {w w' : World} {C : Ctx} {b : Nat} (M : Marked w w' b) (hsh : ∀ k, C.Sh k → k ≠ b)
include M hsh
theorem mark_cells {b' off : Nat} {vs : List Value} (h : cellsAt w b' off vs) : cellsAt w' b' off vs := by
  intro j v hj
  by_cases e : b' = b
  · subst e; exact M.at_ _ _ (h j v hj)
  · rw [cell?_of_heap (M.other b' e)]; exact h j v hj
theorem mark_open {b' n : Nat} (h : openBlock w b' n) : openBlock w' b' n := by
  by_cases e : b' = b
  · subst e; exact M.open_ _ h
  · exact h.keep (M.other _ e)
theorem mark_row {sz : Nat} {l : List AV} {vs : List Value} (h : RepRow w C.Sh sz l vs) : RepRow w' C.Sh sz l vs := RepRow.keep (fun k hk => ⟨hk, M.other k (hsh k hk)⟩) sz l vs h

mutual
theorem Rep.mark : ∀ (a : AV) (v : Value), Rep w C a v → Rep w' C a v
  | .undef, _, _ => trivial
  | .int .., _, h => h
  | .bool .., _, h => h
  | .str .., _, h => h
  | .sl none nb sz l, v, h => RepF.keep (fun k hk => ⟨hk, M.other k (hsh k hk)⟩) _ v h
  | .sl (some (h, eo)) nb sz l, v, hv => by
    rcases hv with hv | hv | ⟨h0, b', base', off, cap, vs, h2, h2', h3, h4, h5, h6, h7⟩
    · exact .inl hv
    · exact .inr (.inl hv)
    · exact .inr (.inr ⟨h0, b', base', off, cap, vs, h2, h2', h3, h4, mark_cells M hsh h5, mark_row M hsh h6, mark_open M hsh h7⟩)
  | .ptr .., _, h => h
  | .nilp, _, h => h
  | .eptr none sz l i off, v, h => RepF.keep (fun k hk => ⟨hk, M.other k (hsh k hk)⟩) _ v h
  | .eptr (some (h, eo)) sz l i off, v, hv => by
    rcases hv with hv | ⟨b', base', vs, h2, h3, h4, h4', h5, h6, h7⟩
    · exact .inl hv
    · exact .inr ⟨b', base', vs, h2, h3, h4, h4', mark_cells M hsh h5, mark_row M hsh h6, mark_open M hsh h7⟩
  | .agg cs, v, h => by
    obtain ⟨vs, h2, h3⟩ := h
    exact ⟨vs, h2, RepS.mark cs vs h3⟩
  | .tup cs, v, h => by
    obtain ⟨vs, h2, h3⟩ := h
    exact ⟨vs, h2, RepSU.mark cs vs h3⟩
  | .fn f cs, v, h => by
    obtain ⟨vs, h2, h3⟩ := h
    exact ⟨vs, h2, RepS.mark cs vs h3⟩
  | .nilf, _, h => h
  | .bsl .., _, h => h
theorem RepS.mark : ∀ (l : List AV) (vs : List Value), RepS w C l vs → RepS w' C l vs
  | [], _, h => h
  | c :: cs, _, h => by
    obtain ⟨v, r, h2, h0, h3, h4⟩ := h
    exact ⟨v, r, h2, h0, Rep.mark c v h3, RepS.mark cs r h4⟩
theorem RepSU.mark : ∀ (l : List AV) (vs : List Value), RepSU w C l vs → RepSU w' C l vs
  | [], _, h => h
  | c :: cs, _, h => by
    obtain ⟨v, r, h2, h3, h4⟩ := h
    exact ⟨v, r, h2, Rep.mark c v h3, RepSU.mark cs r h4⟩
end
end

theorem marked_freeze {w : World} {b : Nat} {c : Array Value} {e : TypeId} {lo hi : Nat} (hb : w.heap[b]? = some (.cells c e (lo, hi))) (hlh : lo ≤ hi) (hfr : ∀ o, o < c.size → ¬ (lo ≤ o ∧ o < hi)) :
    Marked w (w.freeze ⟨b, c.size, none⟩ 1) b := by
  have hlt : b < w.heap.size := (Array.getElem?_eq_some_iff.1 hb).1
  have h' : ∃ lo' hi', (w.freeze ⟨b, c.size, none⟩ 1).heap[b]? = some (.cells c e (lo', hi')) ∧ lo' ≤ hi' ∧ ∀ o, o < c.size → ¬ (lo' ≤ o ∧ o < hi') := by
    have hb' : w.heap[b] = .cells c e (lo, hi) := by rw [Array.getElem?_eq_getElem hlt] at hb; exact Option.some.inj hb
    have hm : (w.freeze ⟨b, c.size, none⟩ 1).heap[b]? = some (.cells c e (if lo == hi then (c.size, c.size + 1) else (min lo c.size, max hi (c.size + 1)))) := by
      unfold World.freeze
      rw [if_neg (by decide)]
      simp only [Array.getElem?_modify, if_true, hb, Option.map_some]
    by_cases hE : lo = hi
    · subst hE
      simp only [beq_self_eq_true, if_true] at hm
      exact ⟨_, _, hm, by omega, fun o ho => by omega⟩
    · have : (lo == hi) = false := by simpa using hE
      rw [this] at hm
      refine ⟨_, _, hm, by omega, fun o ho => ?_⟩
      have h1 := hfr o ho
      have h2 : c.size ≤ lo := by
        rcases Nat.lt_or_ge lo c.size with h | h
        · exact absurd ⟨Nat.le_refl lo, by omega⟩ (hfr lo h)
        · exact h
      omega
  obtain ⟨lo', hi', hm, h1, h2⟩ := h'
  refine ⟨fun b' hne => ?_, fun o v hv => ?_, fun n hn => ?_⟩
  · unfold World.freeze
    rw [if_neg (by decide)]
    simp only [Array.getElem?_modify, if_neg (Ne.symm hne)]
  · simp only [World.cell?, hb] at hv
    simp only [World.cell?, hm]
    exact hv
  · obtain ⟨c', e', lo2, hi2, k1, k2, k3, k4⟩ := hn
    rw [hb] at k1; cases k1
    exact ⟨c, e, lo', hi', hm, k2, h2, h1⟩

def markOp (P : Program) (st : St) (o : Oper) : Option St :=
  match o.op with
  | .convert S T x =>
    match P.underlying T, st.ev P S x with
    | some (.slice E), .sl (some (g, eo)) nb sz l =>
      need ((P.underlying E matches some (.int .u8)) ∧ S = T ∧ nb = false ∧ st.cons g = false ∧ st.frz g = false) (some (st.putO o.dst (.sl (some (g, eo)) nb sz l)))
    | _, _ => none
  | _ => none

theorem step_mark {X : Ent} {st st' : St} {o : Oper} (h : markOp P st o = some st') (hd : St.fits X.n o.dst = true) : OpStep P X st o st' := by
  unfold markOp at h
  split at h
  · rename_i S T x ho
    split at h
    · rename_i E g eo nb sz l hT hx
      obtain ⟨⟨hE, hST, hnb, hcons, hfrz⟩, h'⟩ := need_some h
      cases h'
      subst hST; subst hnb
      refine OpStep.value fun C a w hc => ?_
      have hev := hc.ev P S x
      rw [hx] at hev
      have hE' : P.underlying E = some (.int .u8) := by
        revert hE
        cases P.underlying E with
        | none => simp
        | some d =>
          cases d with
          | int k => cases k <;> simp
          | _ => simp
      rcases hev with hdead | ⟨hn, _⟩ | ⟨_, b, base, off, cap, vs, hg, hoff, hv, hle, hcell, hrow, hopen⟩
      · have := (hc.cons g).2 hdead; rw [hcons] at this; cases this
      · cases hn
      · have hopen' := hopen
        obtain ⟨c, e, lo, hi, h2, h3, h4, h5⟩ := hopen'
        have M := marked_freeze h2 h5 h4
        have m := hc.mem
        have hbsh : ∀ k, C.Sh k → k ≠ b := fun k hk e => m.ownSh g b base hg hfrz (e ▸ hk)
        have hbbox : ∀ id, C.box id ≠ some b := fun id e => m.ownBox g b base id hg hfrz e
        have hsize : (w.freeze ⟨b, c.size, none⟩ 1).heap.size = w.heap.size := by unfold World.freeze; rw [if_neg (by decide)]; simp
        refine ⟨a.eval x, w.freeze ⟨b, c.size, none⟩ 1, C, ?_, ?_⟩
        · have hsh : w.shape? b = some (e, c.size) := by simp [World.shape?, h2]
          simp [execOp, ho, hv, convert, run_underlying hT, run_underlying hE', markStringish, hsh]
        · have hc' : Conc X st C a (w.freeze ⟨b, c.size, none⟩ 1) :=
            { n := hc.n, slots := fun t => Rep.mark M hbsh _ _ (hc.slots t), defers := hc.defers,
              boxes := fun id cs hid => by
                obtain ⟨b', c', e', lo', hi2, k1, k2, k3, k4⟩ := hc.boxes id cs hid
                have hne : b' ≠ b := fun x => hbbox id (x ▸ k1)
                exact ⟨b', c', e', lo', hi2, k1, (M.other _ hne).trans k2, k3, RepS.mark M hbsh _ _ k4⟩,
              boxSome := hc.boxSome,
              mem := { shIn := fun k hk => by rw [hsize]; exact m.shIn k hk, shFrom := m.shFrom, shOld := m.shOld, ownIn := fun g k base h => by rw [hsize]; exact m.ownIn g k base h, ownOne := m.ownOne, ownBox := m.ownBox,
                       ownSh := m.ownSh, ownFrz := m.ownFrz, ownMine := m.ownMine, boxIn := fun id k h => by rw [hsize]; exact m.boxIn id k h, boxOne := m.boxOne, boxSh := m.boxSh, boxMine := m.boxMine,
                       kept := fun k hk hn => by
                         have : k ≠ b := fun e => by
                           subst e
                           rcases m.ownMine g _ base hg hfrz with hb | hb
                           · omega
                           · exact hn hb
                         rw [M.other k this]; exact m.kept k hk hn,
                       size := by rw [hsize]; exact m.size,
                       os := by unfold World.freeze; rw [if_neg (by decide)]; exact m.os,
                       tape := by unfold World.freeze; rw [if_neg (by decide)]; exact m.tape,
                       output := by unfold World.freeze; rw [if_neg (by decide)]; exact m.output },
              cons := hc.cons, made := hc.made, tg := hc.tg, tgInj := hc.tgInj, tgMade := hc.tgMade }
          refine hc'.putO hd ?_
          have := Rep.mark M hbsh _ _ (hc.ev P S x)
          rw [hx] at this
          exact this
    · cases h
  · cases h

/-- A conversion to a slice. -/
def convOp (P : Program) (st : St) (o : Oper) : Option St :=
  match o.op with
  | .convert S _ x =>
    match st.ev P S x with
    | .str _ => sliceOp P st o
    | _ => markOp P st o
  | _ => none

theorem step_conv {X : Ent} {st st' : St} {o : Oper} (h : convOp P st o = some st') (hd : St.fits X.n o.dst = true) : OpStep P X st o st' := by
  unfold convOp at h
  split at h
  · split at h
    · exact step_slice h hd
    · exact step_mark h hd
  · cases h
end Go.VS
