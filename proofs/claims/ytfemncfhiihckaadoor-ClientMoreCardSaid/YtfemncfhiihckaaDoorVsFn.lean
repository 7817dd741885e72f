/- Part of a framework that states what Go functions answer on values as data; it holds for every program of the model. -/
import Derived.Test.YtfemncfhiihckaaDoorVsElem2
import Derived.RangeFuncRecord
namespace Go.VS
set_option linter.unusedVariables false
set_option linter.unusedSimpArgs false
set_option linter.unusedSectionVars false
open Go
variable {P : Program}
/-- A block is marked behind its end: its cells are as they were. -/
structure Marked (w w' : World) (b : Nat) : Prop where
  other : ∀ b', b' ≠ b → w'.heap[b']? = w.heap[b']?
  at_ : ∀ (o : Nat) (v : Value), w.cell? ⟨b, o, none⟩ = some v → w'.cell? ⟨b, o, none⟩ = some v
  open_ : ∀ n, openBlock w b n → openBlock w' b n
section
variable {w w' : World} {C : Ctx} {b : Nat} (M : Marked w w' b) (hsh : ∀ k, C.Sh k → k ≠ b)
include M hsh
theorem mark_cells {b' off : Nat} {vs : List Value} (h : cellsAt w b' off vs) : cellsAt w' b' off vs := by
  intro j v hj
  by_cases e : b' = b
  · subst e; exact M.at_ _ _ (h j v hj)
  · rw [cell?_of_heap (M.other b' e)]; exact h j v hj
theorem mark_open {b' n : Nat} (h : openBlock w b' n) : openBlock w' b' n := by
  by_cases e : b' = b
  · subst e; exact M.open_ _ h
  · exact h.keep (M.other _ e)
theorem mark_row {sz : Nat} {l : List AV} {vs : List Value} (h : RepRow w C.Sh sz l vs) : RepRow w' C.Sh sz l vs := RepRow.keep (fun k hk => ⟨hk, M.other k (hsh k hk)⟩) sz l vs h
mutual
theorem Rep.mark : ∀ (a : AV) (v : Value), Rep w C a v → Rep w' C a v
  | .undef, _, _ => trivial
  | .ghost .., _, _ => trivial
  | .hid _, _, _ => trivial
  | .int .., _, h => h
  | .bool .., _, h => h
  | .str .., _, h => h
  | .sl none nb sz l, v, h => RepF.keep (fun k hk => ⟨hk, M.other k (hsh k hk)⟩) _ v h
  | .sl (some (h, eo)) nb sz l, v, hv => by
    rcases hv with hv | hv | ⟨h0, b', base', off, cap, vs, h2, h2', h3, h4, h5, h6, h7⟩
    · exact .inl hv
    · exact .inr (.inl hv)
    · exact .inr (.inr ⟨h0, b', base', off, cap, vs, h2, h2', h3, h4, mark_cells M hsh h5, mark_row M hsh h6, mark_open M hsh h7⟩)
  | .ptr .., _, h => h
  | .nilp, _, h => h
  | .eptr none sz l i off, v, h => RepF.keep (fun k hk => ⟨hk, M.other k (hsh k hk)⟩) _ v h
  | .eptr (some (h, eo)) sz l i off, v, hv => by
    rcases hv with hv | ⟨b', base', vs, h2, h3, h4, h4', h5, h6, h7⟩
    · exact .inl hv
    · exact .inr ⟨b', base', vs, h2, h3, h4, h4', mark_cells M hsh h5, mark_row M hsh h6, mark_open M hsh h7⟩
  | .agg cs, v, h => by
    obtain ⟨vs, h2, h3⟩ := h
    exact ⟨vs, h2, RepS.mark cs vs h3⟩
  | .tup cs, v, h => by
    obtain ⟨vs, h2, h3⟩ := h
    exact ⟨vs, h2, RepSU.mark cs vs h3⟩
  | .fn f cs, v, h => by
    obtain ⟨vs, h2, h3⟩ := h
    exact ⟨vs, h2, RepS.mark cs vs h3⟩
  | .nilf, _, h => h
  | .yl _, _, h => h
  | .itp .., _, h => h
  | .bsl .., _, h => h
theorem RepS.mark : ∀ (l : List AV) (vs : List Value), RepS w C l vs → RepS w' C l vs
  | [], _, h => h
  | c :: cs, _, h => by
    obtain ⟨v, r, h2, h0, h3, h4⟩ := h
    exact ⟨v, r, h2, h0, Rep.mark c v h3, RepS.mark cs r h4⟩
theorem RepSU.mark : ∀ (l : List AV) (vs : List Value), RepSU w C l vs → RepSU w' C l vs
  | [], _, h => h
  | c :: cs, _, h => by
    obtain ⟨v, r, h2, h3, h4⟩ := h
    exact ⟨v, r, h2, Rep.mark c v h3, RepSU.mark cs r h4⟩
end
end
theorem marked_freeze {w : World} {b : Nat} {c : Array Value} {e : TypeId} {lo hi : Nat} (hb : w.heap[b]? = some (.cells c e (lo, hi))) (hlh : lo ≤ hi) (hfr : ∀ o, o < c.size → ¬ (lo ≤ o ∧ o < hi)) :
    Marked w (w.freeze ⟨b, c.size, none⟩ 1) b := by
  have hlt : b < w.heap.size := (Array.getElem?_eq_some_iff.1 hb).1
  have h' : ∃ lo' hi', (w.freeze ⟨b, c.size, none⟩ 1).heap[b]? = some (.cells c e (lo', hi')) ∧ lo' ≤ hi' ∧ ∀ o, o < c.size → ¬ (lo' ≤ o ∧ o < hi') := by
    have hb' : w.heap[b] = .cells c e (lo, hi) := by rw [Array.getElem?_eq_getElem hlt] at hb; exact Option.some.inj hb
    have hm : (w.freeze ⟨b, c.size, none⟩ 1).heap[b]? = some (.cells c e (if lo == hi then (c.size, c.size + 1) else (min lo c.size, max hi (c.size + 1)))) := by
      unfold World.freeze
      rw [if_neg (by decide)]
      simp only [Array.getElem?_modify, if_true, hb, Option.map_some]
    by_cases hE : lo = hi
    · subst hE
      simp only [beq_self_eq_true, if_true] at hm
      exact ⟨_, _, hm, by omega, fun o ho => by omega⟩
    · have : (lo == hi) = false := by simpa using hE
      rw [this] at hm
      refine ⟨_, _, hm, by omega, fun o ho => ?_⟩
      have h1 := hfr o ho
      have h2 : c.size ≤ lo := by
        rcases Nat.lt_or_ge lo c.size with h | h
        · exact absurd ⟨Nat.le_refl lo, by omega⟩ (hfr lo h)
        · exact h
      omega
  obtain ⟨lo', hi', hm, h1, h2⟩ := h'
  refine ⟨fun b' hne => ?_, fun o v hv => ?_, fun n hn => ?_⟩
  · unfold World.freeze
    rw [if_neg (by decide)]
    simp only [Array.getElem?_modify, if_neg (Ne.symm hne)]
  · simp only [World.cell?, hb] at hv
    simp only [World.cell?, hm]
    exact hv
  · obtain ⟨c', e', lo2, hi2, k1, k2, k3, k4⟩ := hn
    rw [hb] at k1; cases k1
    exact ⟨c, e, lo', hi', hm, k2, h2, h1⟩
def markOp (P : Program) (st : St) (o : Oper) : Option St :=
  match o.op with
  | .convert S T x =>
    match P.underlying T, st.ev P S x with
    | some (.slice E), .sl (some (g, eo)) nb sz l =>
      need ((P.underlying E matches some (.int .u8)) ∧ S = T ∧ nb = false ∧ st.cons g = false ∧ st.frz g = false) (some (st.putO o.dst (.sl (some (g, eo)) nb sz l)))
    | _, _ => none
  | _ => none
theorem step_mark {X : Ent} {st st' : St} {o : Oper} (h : markOp P st o = some st') (hd : St.fits X.n o.dst = true) : OpStep P X st o st' := by
  unfold markOp at h
  split at h
  · rename_i S T x ho
    split at h
    · rename_i E g eo nb sz l hT hx
      obtain ⟨⟨hE, hST, hnb, hcons, hfrz⟩, h'⟩ := need_some h
      cases h'
      subst hST; subst hnb
      refine OpStep.value fun C a w hc => ?_
      have hev := hc.ev P S x
      rw [hx] at hev
      have hE' : P.underlying E = some (.int .u8) := by
        revert hE
        cases P.underlying E with
        | none => simp
        | some d =>
          cases d with
          | int k => cases k <;> simp
          | _ => simp
      rcases hev with hdead | ⟨hn, _⟩ | ⟨_, b, base, off, cap, vs, hg, hoff, hv, hle, hcell, hrow, hopen⟩
      · have := (hc.cons g).2 hdead; rw [hcons] at this; cases this
      · cases hn
      · have hopen' := hopen
        obtain ⟨c, e, lo, hi, h2, h3, h4, h5⟩ := hopen'
        have M := marked_freeze h2 h5 h4
        have m := hc.mem
        have hbsh : ∀ k, C.Sh k → k ≠ b := fun k hk e => m.ownSh g b base hg hfrz (e ▸ hk)
        have hbbox : ∀ id, C.box id ≠ some b := fun id e => m.ownBox g b base id hg hfrz e
        have hsize : (w.freeze ⟨b, c.size, none⟩ 1).heap.size = w.heap.size := by unfold World.freeze; rw [if_neg (by decide)]; simp
        refine ⟨a.eval x, w.freeze ⟨b, c.size, none⟩ 1, C, ?_, ?_⟩
        · have hsh : w.shape? b = some (e, c.size) := by simp [World.shape?, h2]
          simp [execOp, ho, hv, convert, run_underlying hT, run_underlying hE', markStringish, hsh]
        · have hc' : Conc X st C a (w.freeze ⟨b, c.size, none⟩ 1) :=
            { n := hc.n, slots := fun t => Rep.mark M hbsh _ _ (hc.slots t),
              frg := hc.frg.go (.same fun a u hr => Rep.mark M hbsh a u hr) rfl (fun _ hb => .inl hb) (fun _ hb => .inl hb) (fun k _ hk => M.other k fun e => by
                subst e
                rcases hk with hk | hk
                · exact hc.frg.out k (.inl ⟨g, base, hg, hfrz⟩) hk
                · exact hk (m.ownMine g k base hg hfrz)) (by rw [hsize]; exact Nat.le_refl _) (by unfold World.freeze; rw [if_neg (by decide)]) (by unfold World.freeze; rw [if_neg (by decide)]) (by unfold World.freeze; rw [if_neg (by decide)]),
              boxes := fun id cs hid => by
                obtain ⟨b', c', e', lo', hi2, k1, k2, k3, k4⟩ := hc.boxes id cs hid
                have hne : b' ≠ b := fun x => hbbox id (x ▸ k1)
                exact ⟨b', c', e', lo', hi2, k1, (M.other _ hne).trans k2, k3, RepS.mark M hbsh _ _ k4⟩,
              boxSome := hc.boxSome,
              mem := { shIn := fun k hk => by rw [hsize]; exact m.shIn k hk, shFrom := m.shFrom, shOld := m.shOld, ownIn := fun g k base h => by rw [hsize]; exact m.ownIn g k base h, ownOne := m.ownOne, ownBox := m.ownBox,
                       ownSh := m.ownSh, ownFrz := m.ownFrz, ownMine := m.ownMine, boxIn := fun id k h => by rw [hsize]; exact m.boxIn id k h, boxOne := m.boxOne, boxSh := m.boxSh, boxMine := m.boxMine,
                       kept := fun k hk hn => by
                         have : k ≠ b := fun e => by
                           subst e
                           rcases m.ownMine g _ base hg hfrz with hb | hb
                           · omega
                           · exact hn hb
                         rw [M.other k this]; exact m.kept k hk hn,
                       size := by rw [hsize]; exact m.size,
                       os := by unfold World.freeze; rw [if_neg (by decide)]; exact m.os,
                       tape := by unfold World.freeze; rw [if_neg (by decide)]; exact m.tape,
                       output := by unfold World.freeze; rw [if_neg (by decide)]; exact m.output },
              cons := hc.cons, made := hc.made, tg := hc.tg, tgInj := hc.tgInj, tgMade := hc.tgMade }
          refine hc'.putO hd ?_
          have := Rep.mark M hbsh _ _ (hc.ev P S x)
          rw [hx] at this
          exact this
    · cases h
  · cases h
/-- A conversion to a slice. -/
def convOp (P : Program) (st : St) (o : Oper) : Option St :=
  match o.op with
  | .convert S _ x =>
    match st.ev P S x with
    | .str _ => sliceOp P st o
    | _ => markOp P st o
  | _ => none
theorem step_conv {X : Ent} {st st' : St} {o : Oper} (h : convOp P st o = some st') (hd : St.fits X.n o.dst = true) : OpStep P X st o st' := by
  unfold convOp at h
  split at h
  · split at h
    · exact step_slice h hd
    · exact step_mark h hd
  · cases h
end Go.VS
namespace Go.VS
set_option linter.unusedVariables false
set_option linter.unusedSimpArgs false
set_option linter.unusedSectionVars false
open Go
variable {P : Program}
/-- One operation: where it leads, or what it calls. -/
def vstep (P : Program) (n : Nat) (st : St) (o : Oper) : Option (St ⊕ (FuncId × List AV)) :=
  match o.op with
  | .alloc _ | .box _ _ =>
    match o.dst with
    | some d =>
      if (st.bx d).isNone = true then (newBox P st o).bind fun cs => need (d < n) (some (.inl (({ st with bx := upd st.bx d (some cs) } : St).put d (.ptr d 0))))
      else (newBox P (st.dropBox d) o).bind fun cs => need (d < n ∧ d < 1000000) (some (.inl (({ st.dropBox d with bx := upd (st.dropBox d).bx d (some cs) } : St).put d (.ptr d 0))))
    | none => none
  | .store _ a _ =>
    match o.dst with
    | none =>
      match st.ev P 0 a with
      | .eptr .. => (storeEl P st o).bind fun s => some (.inl s)
      | _ => (storeBox P st o).bind fun r => some (.inl { st with bx := upd st.bx r.1 (some r.2) })
    | some _ => none
  | .buildSlice _ _ _ | .makeSlice _ _ _ => need (St.fits n o.dst = true) ((sliceOp P st o).bind fun s => some (.inl s))
  | .convert _ _ _ => need (St.fits n o.dst = true)
      (match pv P st o with
       | some v => some (.inl (st.putO o.dst v))
       | none => (convOp P st o).bind fun s => some (.inl s))
  | .call c =>
    match c.callee with
    | .builtin .append => need (St.fits n o.dst = true) ((appOp P st o).bind fun s => some (.inl s))
    | .value _ => (calls P st o).bind fun fa => need (callOk P fa.1 = true ∧ argsOk st fa.2 = true ∧ St.fits n o.dst = true) (some (.inr fa))
    | _ => need (St.fits n o.dst = true) ((pv P st o).bind fun v => some (.inl (st.putO o.dst v)))
  | _ => need (St.fits n o.dst = true) ((pv P st o).bind fun v => some (.inl (st.putO o.dst v)))
def vop (P : Program) (n : Nat) (st : St) (o : Oper) (K : St → Prop) : Prop :=
  match vstep P n st o with
  | some (.inl st') => K st'
  | some (.inr fa) => ∃ r, CallsP P fa.1 (fa.2.map froz) r ∧
      (match callSt st o.dst fa.2 r with
       | some st' => K st'
       | none => False)
  | none => False
theorem vop_mono {n : Nat} {st : St} {o : Oper} {K K' : St → Prop} (hk : ∀ s, K s → K' s) (h : vop P n st o K) : vop P n st o K' := by
  unfold vop at h ⊢
  split at h
  · exact hk _ h
  · obtain ⟨r, h1, h2⟩ := h
    refine ⟨r, h1, ?_⟩
    split at h2
    · exact hk _ h2
    · exact h2.elim
  · exact h.elim
theorem vstep_inl {X : Ent} {st st' : St} {o : Oper} (h : vstep P X.n st o = some (.inl st')) : OpStep P X st o st' := by
  have hpv : need (St.fits X.n o.dst = true) ((pv P st o).bind fun v => some (.inl (st.putO o.dst v))) = some (Sum.inl (β := FuncId × List AV) st') → OpStep P X st o st' := by
    intro h
    obtain ⟨h1, h2⟩ := need_some h
    obtain ⟨v, h3, h4⟩ := Option.bind_eq_some_iff.1 h2
    cases h4
    exact step_pv h3 h1
  have hsl : need (St.fits X.n o.dst = true) ((sliceOp P st o).bind fun s => some (.inl s)) = some (Sum.inl (β := FuncId × List AV) st') → OpStep P X st o st' := by
    intro h
    obtain ⟨h1, h2⟩ := need_some h
    obtain ⟨v, h3, h4⟩ := Option.bind_eq_some_iff.1 h2
    cases h4
    exact step_slice h3 h1
  have hbx : (match o.dst with
    | some d =>
      if (st.bx d).isNone = true then (newBox P st o).bind fun cs => need (d < X.n) (some (.inl (({ st with bx := upd st.bx d (some cs) } : St).put d (.ptr d 0))))
      else (newBox P (st.dropBox d) o).bind fun cs => need (d < X.n ∧ d < 1000000) (some (.inl (({ st.dropBox d with bx := upd (st.dropBox d).bx d (some cs) } : St).put d (.ptr d 0))))
    | none => none) = some (Sum.inl (β := FuncId × List AV) st') → OpStep P X st o st' := by
    intro h
    split at h
    · rename_i d hd
      split at h
      · rename_i hn
        obtain ⟨cs, h1, h2⟩ := Option.bind_eq_some_iff.1 h
        obtain ⟨h3, h4⟩ := need_some h2
        cases h4
        exact step_box h1 hd h3 (by simpa using hn)
      · obtain ⟨cs, h1, h2⟩ := Option.bind_eq_some_iff.1 h
        obtain ⟨h3, h4⟩ := need_some h2
        cases h4
        have hs := step_box (X := X) h1 hd h3.1 (by simp [St.dropBox])
        exact fun C a w hc K' Q hK => hs _ a w (hc.dropBox d h3.2) K' Q hK
    · cases h
  unfold vstep at h
  split at h
  · exact hbx h
  · exact hbx h
  · split at h
    · rename_i hd
      split at h
      · obtain ⟨r, h1, h2⟩ := Option.bind_eq_some_iff.1 h
        cases h2
        exact step_storeEl h1 hd
      · obtain ⟨r, h1, h2⟩ := Option.bind_eq_some_iff.1 h
        cases h2
        obtain ⟨id, cs⟩ := r
        exact step_store h1 hd
    · cases h
  · exact hsl h
  · exact hsl h
  · obtain ⟨h1, h2⟩ := need_some h
    split at h2
    · rename_i v hv
      cases h2
      exact step_pv hv h1
    · obtain ⟨v, h3, h4⟩ := Option.bind_eq_some_iff.1 h2
      cases h4
      exact step_conv h3 h1
  · split at h
    · obtain ⟨h1, h2⟩ := need_some h
      obtain ⟨v, h3, h4⟩ := Option.bind_eq_some_iff.1 h2
      cases h4
      exact step_app h3 h1
    · obtain ⟨fa, h1, h2⟩ := Option.bind_eq_some_iff.1 h
      obtain ⟨_, h3⟩ := need_some h2
      cases h3
    · exact hpv h
  · exact hpv h
theorem vstep_inr {n : Nat} {st : St} {o : Oper} {fa : FuncId × List AV} (h : vstep P n st o = some (.inr fa)) : calls P st o = some fa ∧ callOk P fa.1 = true ∧ argsOk st fa.2 = true ∧ St.fits n o.dst = true := by
  have hpv : need (St.fits n o.dst = true) ((pv P st o).bind fun v => some (.inl (st.putO o.dst v))) = some (Sum.inr (α := St) fa) → False := by
    intro h
    obtain ⟨h1, h2⟩ := need_some h
    obtain ⟨v, h3, h4⟩ := Option.bind_eq_some_iff.1 h2
    cases h4
  have hsl : need (St.fits n o.dst = true) ((sliceOp P st o).bind fun s => some (.inl s)) = some (Sum.inr (α := St) fa) → False := by
    intro h
    obtain ⟨h1, h2⟩ := need_some h
    obtain ⟨v, h3, h4⟩ := Option.bind_eq_some_iff.1 h2
    cases h4
  have hbx : (match o.dst with
    | some d =>
      if (st.bx d).isNone = true then (newBox P st o).bind fun cs => need (d < n) (some (.inl (({ st with bx := upd st.bx d (some cs) } : St).put d (.ptr d 0))))
      else (newBox P (st.dropBox d) o).bind fun cs => need (d < n ∧ d < 1000000) (some (.inl (({ st.dropBox d with bx := upd (st.dropBox d).bx d (some cs) } : St).put d (.ptr d 0))))
    | none => none) = some (Sum.inr (α := St) fa) → False := by
    intro h
    split at h
    · split at h <;>
      · obtain ⟨cs, h1, h2⟩ := Option.bind_eq_some_iff.1 h
        obtain ⟨h3, h4⟩ := need_some h2
        cases h4
    · cases h
  unfold vstep at h
  split at h
  · exact (hbx h).elim
  · exact (hbx h).elim
  · split at h
    · split at h
      · obtain ⟨r, h1, h2⟩ := Option.bind_eq_some_iff.1 h
        cases h2
      · obtain ⟨r, h1, h2⟩ := Option.bind_eq_some_iff.1 h
        cases h2
    · cases h
  · exact (hsl h).elim
  · exact (hsl h).elim
  · obtain ⟨h1, h2⟩ := need_some h
    split at h2
    · cases h2
    · obtain ⟨v, h3, h4⟩ := Option.bind_eq_some_iff.1 h2
      cases h4
  · split at h
    · obtain ⟨h1, h2⟩ := need_some h
      obtain ⟨v, h3, h4⟩ := Option.bind_eq_some_iff.1 h2
      cases h4
    · obtain ⟨fa', h1, h2⟩ := Option.bind_eq_some_iff.1 h
      obtain ⟨h3, h4⟩ := need_some h2
      cases h4
      exact ⟨h1, h3.1, h3.2.1, h3.2.2⟩
    · exact (hpv h).elim
  · exact (hpv h).elim
theorem vop_sound {X : Ent} {st : St} {o : Oper} {K : St → Prop} (h : vop P X.n st o K) : ∃ st', OpStep P X st o st' ∧ K st' := by
  unfold vop at h
  split at h
  · rename_i st' e
    exact ⟨_, vstep_inl e, h⟩
  · rename_i fa e
    obtain ⟨h1, h2, h3, h4⟩ := vstep_inr e
    obtain ⟨f, as⟩ := fa
    obtain ⟨r, h5, h6⟩ := h
    split at h6
    · rename_i st' hst
      exact ⟨_, step_call h1 h2 h3 h5 hst h4, h6⟩
    · exact h6.elim
  · exact h.elim
/-- Is it carried out? What is not leaves nothing. -/
def vguard (n : Nat) (ops : Array Oper) (st : St) (o : Oper) (run : (St → Prop) → Prop) (K : St → Prop) : Prop :=
  match o.guard with
  | none => run K
  | some (j, want) =>
    match (ops[j]?).bind (·.dst) with
    | some g =>
      match st.s g with
      | .bool b => (b = want → run K) ∧ (b ≠ want → St.fits n o.dst = true ∧ K (st.putO o.dst (.tup [])))
      | .tup [] => St.fits n o.dst = true ∧ K (st.putO o.dst (.tup []))
      | _ => False
    | none => False
def vops (P : Program) (n : Nat) (ops : Array Oper) : List Oper → St → (St → Prop) → Prop
  | [], st, K => K st
  | o :: os, st, K => vguard n ops st o (vop P n st o) fun st' => vops P n ops os st' K
theorem yielded_of {X : Ent} {st : St} {C : Ctx} {a : Act} {w : World} (hc : Conc X st C a w) {ops : Array Oper} {j g : Nat} {b : Bool} (hg : (ops[j]?).bind (·.dst) = some g) (hb : st.s g = .bool b) :
    yielded ops a.tmps j = some b := by
  have h := hc.slots g
  rw [hb] at h
  simp only [Rep] at h
  unfold yielded
  rw [hg]
  simp only [Option.bind_some]
  rw [Array.getD_eq_getD_getElem?] at h
  cases e : a.tmps[g]? with
  | none => rw [e] at h; simp [undef] at h
  | some v => rw [e] at h; simp only [Option.getD_some] at h; subst h; rfl
theorem yielded_skip {X : Ent} {st : St} {C : Ctx} {a : Act} {w : World} (hc : Conc X st C a w) {ops : Array Oper} {j g : Nat} (hg : (ops[j]?).bind (·.dst) = some g) (hb : st.s g = .tup []) :
    yielded ops a.tmps j = none := by
  have h := hc.slots g
  rw [hb] at h
  obtain ⟨vs, h1, h2⟩ := h
  simp only [RepSU] at h2
  subst h2
  unfold yielded
  rw [hg]
  simp only [Option.bind_some]
  rw [Array.getD_eq_getD_getElem?] at h1
  cases e : a.tmps[g]? with
  | none => rfl
  | some v => rw [e] at h1; simp only [Option.getD_some] at h1; subst h1; rfl
theorem vguard_sound {X : Ent} {ops : Array Oper} {st : St} {i : Nat} {o : Oper} {K : St → Prop} (hi : ops[i]? = some o) (h : vguard X.n ops st o (vop P X.n st o) K)
    {C : Ctx} {a : Act} {w : World} (hc : Conc X st C a w) {Kc : Act → World → Prop} {Q : Exit → Act → World → Prop} (hK : ∀ st' C' a' w', K st' → Conc X st' C' a' w' → Kc a' w') : wpOpIn (Fr X.round) 0 P ops Q i Kc a w := by
  unfold wpOpIn
  rw [hi]
  simp only
  unfold vguard at h
  split at h
  · rename_i hg
    have hw : Region.wanted o (yielded ops a.tmps) = true := by simp [Region.wanted, hg]
    rw [if_pos hw]
    obtain ⟨st', h1, h2⟩ := vop_sound h
    exact h1 C a w hc Kc Q fun C' a' w' hc' => hK st' C' a' w' h2 hc'
  · rename_i j want hg
    split at h
    · rename_i g hgd
      split at h
      · rename_i b hb
        have hy := yielded_of hc hgd hb
        by_cases e : b = want
        · have hw : Region.wanted o (yielded ops a.tmps) = true := by simp [Region.wanted, hg, hy, e]
          rw [if_pos hw]
          obtain ⟨st', h1, h2⟩ := vop_sound (h.1 e)
          exact h1 C a w hc Kc Q fun C' a' w' hc' => hK st' C' a' w' h2 hc'
        · have hw : ¬ (Region.wanted o (yielded ops a.tmps) = true) := by simp [Region.wanted, hg, hy, e]
          rw [if_neg hw]
          obtain ⟨h1, h2⟩ := h.2 e
          exact ⟨fun _ _ => trivial, hK _ C _ w h2 (hc.putO h1 ⟨[], rfl, rfl⟩)⟩
      · rename_i hb
        have hy := yielded_skip hc hgd hb
        have hw : ¬ (Region.wanted o (yielded ops a.tmps) = true) := by simp [Region.wanted, hg, hy]
        rw [if_neg hw]
        exact ⟨fun _ _ => trivial, hK _ C _ w h.2 (hc.putO h.1 ⟨[], rfl, rfl⟩)⟩
      · exact h.elim
    · exact h.elim
/-- Operations in an order. -/
def vidx (P : Program) (n : Nat) (ops : Array Oper) : List Nat → St → (St → Prop) → Prop
  | [], st, K => K st
  | i :: is, st, K =>
    match ops[i]? with
    | some o => vguard n ops st o (vop P n st o) fun st' => vidx P n ops is st' K
    | none => False
theorem vidx_sound {X : Ent} {ops : Array Oper} {Q : Exit → Act → World → Prop} : ∀ (is : List Nat) (st : St) (K : St → Prop), vidx P X.n ops is st K → ∀ (C : Ctx) (a : Act) (w : World), Conc X st C a w →
    (∀ st' C' a' w', K st' → Conc X st' C' a' w' → Q .normal a' w') → wpOpsIn (Fr X.round) 0 P ops Q is a w
  | [], st, K, h, C, a, w, hc, hK => hK st C a w h hc
  | i :: is, st, K, h, C, a, w, hc, hK => by
    rw [wpOpsIn_cons]
    simp only [vidx] at h
    split at h
    · rename_i o hi
      exact vguard_sound hi h hc fun st' C' a' w' h' hc' => vidx_sound is st' K h' C' a' w' hc' hK
    · exact h.elim
theorem vguard_mono {n : Nat} {ops : Array Oper} {st : St} {o : Oper} {K K' : St → Prop} (hk : ∀ s, K s → K' s) (h : vguard n ops st o (vop P n st o) K) : vguard n ops st o (vop P n st o) K' := by
  unfold vguard at h ⊢
  split at h
  · exact vop_mono hk h
  · split at h
    · split at h
      · exact ⟨fun e => vop_mono hk (h.1 e), fun e => ⟨(h.2 e).1, hk _ (h.2 e).2⟩⟩
      · exact ⟨h.1, hk _ h.2⟩
      · exact h.elim
    · exact h.elim
theorem vops_idx {n : Nat} {ops : Array Oper} {K : St → Prop} : ∀ (l : List Oper) (k : Nat) (st : St), ops.toList.drop k = l → vops P n ops l st K → vidx P n ops (List.range' k l.length) st K
  | [], k, st, _, h => h
  | o :: l, k, st, hl, h => by
    have hk : ops[k]? = some o := by
      have h0 : (ops.toList.drop k)[0]? = some o := by rw [hl]; rfl
      simpa [List.getElem?_drop] using h0
    simp only [List.length_cons, List.range'_succ, vidx, hk]
    simp only [vops] at h
    have hd : ops.toList.drop (k + 1) = l := by rw [← List.drop_drop, hl]; rfl
    exact vguard_mono (fun s hs => vops_idx l (k + 1) s hd hs) h
/-- What a round leaves, as the iterator sees it: what is the caller's may have turned, and nothing else. -/
def YPost (X : Ent) (l : Nat) (done todo : List AV) (M S Sh : Nat → Prop) (w : World) (e : Ending) (w' : World) : Prop :=
  ∃ b, e = .returned (.bool b) ∧ ∃ M' S' : Nat → Prop, (∀ w'', Ext X.mine M' S' w' w'' → X.J l (!b) done todo M' S' w'') ∧ (∀ b, M' b ∨ S' b → b < w'.heap.size) ∧ (∀ b, M' b → M b ∨ w.heap.size ≤ b) ∧
    (∀ b, S' b → S b ∨ Sh b ∨ M b ∨ w.heap.size ≤ b) ∧ w.heap.size ≤ w'.heap.size ∧ (∀ b, b < w.heap.size → ¬ M b → w'.heap[b]? = w.heap[b]?) ∧ w'.os = w.os ∧ w'.tape = w.tape ∧ w'.output = w.output
/-- A round may begin whenever an iterator hands on what is next. -/
def YieldOk (P : Program) (X : Ent) : Prop :=
  ∀ (l : Nat) (done todo : List AV) (as : List AV) (M S : Nat → Prop) (w : World) (Sh : Nat → Prop) (vals : List Value), (∀ w', Ext X.mine M S w w' → X.J l false done (.tup as :: todo) M S w') →
    (∀ b, M b ∨ S b → b < w.heap.size) → (∀ b, Sh b → b < w.heap.size ∧ ¬ M b ∧ (X.Sh0 b ∨ X.mine b)) → RepArgs w Sh as vals →
    ∃ fn tmps assign body, (Instr.yield l vals.toArray).run P w = .ok (.round l fn tmps assign body) w ∧ RoundIn Fence.wide 0 P l fn tmps assign body w (YPost X l (done ++ [.tup as]) todo M S Sh w)
def AWP (P : Program) (X : Ent) (c : Code) (Q : Exit → St → Prop) (st : St) : Prop :=
  YieldOk P X → ∀ (C : Ctx) (a : Act) (w : World), Conc X st C a w → c.wpIn (Fr X.round) 0 P (fun e a' w' => ∃ st' C', Q e st' ∧ Conc X st' C' a' w') a w
theorem AWP.mono {X : Ent} {c : Code} {Q Q' : Exit → St → Prop} {st : St} (h : AWP P X c Q st) (hq : ∀ e s, Q e s → Q' e s) : AWP P X c Q' st :=
  fun hy C a w hc => wpIn_mono (h hy C a w hc) fun e a' w' ⟨st', C', h1, h2⟩ => ⟨st', C', hq e st' h1, h2⟩
/-- What holds of less that is known holds. -/
theorem AWP.weaken {X : Ent} {c : Code} {Q : Exit → St → Prop} {st st' : St} (h : AWP P X c Q st') (hw : ∀ C a w, Conc X st C a w → ∃ C', Conc X st' C' a w) : AWP P X c Q st := by
  intro hy C a w hc
  obtain ⟨C', hc'⟩ := hw C a w hc
  exact h hy C' a w hc'
def norm (ks : List Nat) (st : St) : St := st.settle.keep ks
theorem Conc.norm {X : Ent} {st : St} {C : Ctx} {a : Act} {w : World} (hc : Conc X st C a w) (ks : List Nat) : ∃ C', Conc X (VS.norm ks st) C' a w := by
  obtain ⟨C', h⟩ := hc.settle
  exact ⟨C', h.keep ks⟩
theorem AWP.region {X : Ent} {ks : List Nat} {id : Nat} {ops : Array Oper} {Q : Exit → St → Prop} {st : St} (h : vops P X.n ops ops.toList st fun s => Q .normal (norm ks s)) : AWP P X (.region id ops false) Q st := by
  intro _ C a w hc
  refine wpIn_region ?_
  have hi := vops_idx ops.toList 0 st (by simp) h
  have : List.range' 0 ops.toList.length = List.range ops.size := by simp [List.range_eq_range']
  rw [this] at hi
  refine vidx_sound _ st _ hi C a w hc fun st' C' a' w' hq hc' => ?_
  obtain ⟨C2, h2⟩ := hc'.norm ks
  exact ⟨_, C2, hq, h2⟩
def thenS (next : St → Prop) (Q : Exit → St → Prop) : Exit → St → Prop
  | .normal, s => next s
  | e, s => Q e s
theorem AWP.seq {X : Ent} {x y : Code} {Q : Exit → St → Prop} {st : St} (h : AWP P X x (thenS (AWP P X y Q) Q) st) : AWP P X (.seq x y) Q st := by
  intro hy C a w hc
  refine wpIn_seq (wpIn_mono (h hy C a w hc) ?_)
  rintro e a' w' ⟨st', C', h1, h2⟩
  cases e with
  | normal => exact h1 hy C' a' w' h2
  | _ => exact ⟨st', C', h1, h2⟩
theorem AWP.cond {X : Ent} {c : Operand} {x y : Code} {Q : Exit → St → Prop} {st : St} {b : Bool} (hb : st.ev P 0 c = .bool b) (ht : b = true → AWP P X x Q st) (hf : b = false → AWP P X y Q st) :
    AWP P X (.cond c x y) Q st := by
  intro hy C a w hc
  have h := hc.ev P 0 c
  rw [hb] at h
  simp only [Rep] at h
  exact wpIn_cond_split h (fun e => ht e hy C a w hc) (fun e => hf e hy C a w hc)
def blockS (id : Nat) (Q : Exit → St → Prop) : Exit → St → Prop
  | .exit id', s => if id' = id then Q .normal s else Q (.exit id') s
  | e, s => Q e s
theorem AWP.block {X : Ent} {id : Nat} {c : Code} {Q : Exit → St → Prop} {st : St} (h : AWP P X c (blockS id Q) st) : AWP P X (.block id c) Q st := by
  intro hy C a w hc
  refine wpIn_block (wpIn_mono (h hy C a w hc) ?_)
  rintro e a' w' ⟨st', C', h1, h2⟩
  cases e with
  | exit id' =>
    simp only [blockS] at h1
    simp only [Exit.inBlock]
    split at h1
    · rename_i e; rw [if_pos e]; exact ⟨st', C', h1, h2⟩
    · rename_i e; rw [if_neg e]; exact ⟨st', C', h1, h2⟩
  | _ => exact ⟨st', C', h1, h2⟩
theorem AWP.exit {X : Ent} {id : Nat} {Q : Exit → St → Prop} {st : St} (h : Q (.exit id) st) : AWP P X (.exit id) Q st := fun _ C _ _ hc => wpIn_exit ⟨st, C, h, hc⟩
theorem AWP.ret {X : Ent} {Q : Exit → St → Prop} {st : St} (h : Q .ret st) : AWP P X .ret Q st := fun _ C _ _ hc => wpIn_ret ⟨st, C, h, hc⟩
theorem AWP.skip {X : Ent} {Q : Exit → St → Prop} {st : St} (h : Q .normal st) : AWP P X .skip Q st := fun _ C _ _ hc => wpIn_skip ⟨st, C, h, hc⟩
theorem AWP.label {X : Ent} {l : Nat} {Q : Exit → St → Prop} {st : St} (h : Q .normal st) : AWP P X (.label l) Q st := fun _ C _ _ hc => wpIn_label ⟨st, C, h, hc⟩
/-- A loop, with what holds at each round's head and a number that goes down. -/
theorem AWP.loopI {X : Ent} {c : Code} {Q : Exit → St → Prop} {st : St} (I : Nat → St → Prop) (n : Nat) (h0 : I n st)
    (round : ∀ n s, I n s → AWP P X c (thenS (fun s' => ∃ m, m < n ∧ I m s') Q) s) : AWP P X (.loop c) Q st := by
  intro hy
  have key : ∀ n (s : St), I n s → ∀ (C : Ctx) (a : Act) (w : World), Conc X s C a w → ∀ (b : Frame) (k : List Item) (cs : List Frame), b.roundOf = (Fr X.round).round → (Fr X.round).fn b.fn → (Fr X.round).room (cs.length + 1 + 0) →
      ∃ e a' w', (∃ st' C', Q e st' ∧ Conc X st' C' a' w') ∧ ArrivesIn (Machine.fenced P (Fr X.round)) P (lone (b.atR a (.code c :: .inLoop c :: k)) cs w) b k cs e a' w' := by
    intro n
    induction n using Nat.strongRecOn with
    | _ n ih =>
      intro s hI C a w hc b k cs hro hb hr
      obtain ⟨e, a1, w1, ⟨s1, C1, hq, hc1⟩, harr⟩ := round n s hI hy C a w hc b (.inLoop c :: k) cs hro hb hr
      cases e with
      | normal =>
        obtain ⟨m, hlt, hI1⟩ := hq
        obtain ⟨e2, a2, w2, hq2, harr2⟩ := ih m hlt s1 hI1 C1 a1 w1 hc1 b k cs hro hb hr
        exact ⟨e2, a2, w2, hq2, .of_steps (StepsIn.trans harr (.one (fenced_calm hb hr rfl) stepR_inLoop)) harr2⟩
      | exit id => exact ⟨_, a1, w1, ⟨s1, C1, hq, hc1⟩, .pass (x := .inLoop c) rfl (fun _ _ => .inl (by simp)) harr⟩
      | goto l => exact ⟨_, a1, w1, ⟨s1, C1, hq, hc1⟩, .pass (x := .inLoop c) rfl (fun _ _ => .inl (by simp)) harr⟩
      | ret => exact ⟨_, a1, w1, ⟨s1, C1, hq, hc1⟩, .pass (x := .inLoop c) rfl (fun _ _ => .inl (by simp)) harr⟩
      | panic ch => exact ⟨_, a1, w1, ⟨s1, C1, hq, hc1⟩, .pass (x := .inLoop c) rfl (fun _ _ => .inl (by simp)) harr⟩
      | outgrown => exact ⟨_, a1, w1, ⟨s1, C1, hq, hc1⟩, .pass (x := .inLoop c) rfl (fun _ _ => .inl (by simp)) harr⟩
  intro C a w hc b k cs hro hb hr
  obtain ⟨e, a', w', hq, harr⟩ := key n st h0 C a w hc b k cs hro hb hr
  exact ⟨e, a', w', hq, .of_steps (.one (fenced_calm hb hr rfl) stepR_loop) harr⟩
/-- A loop: what holds at each round's head, and what goes down. -/
theorem AWP.loop {X : Ent} {c : Code} {Q : Exit → St → Prop} {st : St} (I : St → Prop) (μ : St → Nat) (h0 : I st)
    (round : ∀ s, I s → AWP P X c (thenS (fun s' => I s' ∧ μ s' < μ s) Q) s) : AWP P X (.loop c) Q st :=
  AWP.loopI (fun n s => I s ∧ μ s = n) (μ st) ⟨h0, rfl⟩ fun n s ⟨h1, h2⟩ => AWP.mono (round s h1) fun e s' h' => by
    cases e with
    | normal => exact ⟨μ s', by rw [← h2]; exact h'.2, h'.1, rfl⟩
    | _ => exact h'
end Go.VS
namespace Go.VS
set_option linter.unusedVariables false
set_option linter.unusedSimpArgs false
set_option linter.unusedSectionVars false
open Go
variable {P : Program}
mutual
def stA : AV → List Stamp
  | .sl (some (g, _)) _ _ _ => [g]
  | .agg cs => stAL cs
  | .tup cs => stAL cs
  | .fn _ cs => stAL cs
  | _ => []
def stAL : List AV → List Stamp
  | [] => []
  | c :: cs => stA c ++ stAL cs
end
mutual
def closed : AV → Bool
  | .ptr .. => false
  | .bsl .. => false
  | .eptr .. => false
  | .agg cs => closedL cs
  | .tup cs => closedL cs
  | .fn _ cs => closedL cs
  | _ => true
def closedL : List AV → Bool
  | [] => true
  | c :: cs => closed c && closedL cs
end
mutual
def rnA (gs : List Stamp) : AV → AV
  | .sl (some (g, eo)) nb sz l => .sl (some ((3, gs.idxOf g), eo)) nb sz l
  | .agg cs => .agg (rnL gs cs)
  | .tup cs => .tup (rnL gs cs)
  | .fn f cs => .fn f (rnL gs cs)
  | v => v
def rnL (gs : List Stamp) : List AV → List AV
  | [] => []
  | c :: cs => rnA gs c :: rnL gs cs
end
mutual
theorem Rep.rn {w : World} {C C2 : Ctx} {gs : List Stamp} (hsh : C2.Sh = C.Sh) : ∀ (a : AV) (v : Value), closed a = true → (∀ g ∈ stA a, C2.own (3, gs.idxOf g) = C.own g) → Rep w C a v → Rep w C2 (rnA gs a) v
  | .undef, _, _, _, _ => trivial
  | .ghost .., _, _, _, _ => trivial
  | .hid _, _, _, _, _ => trivial
  | .int .., _, _, _, h => h
  | .bool .., _, _, _, h => h
  | .str .., _, _, _, h => h
  | .sl none nb sz l, v, _, _, h => by
    simp only [rnA, Rep] at h ⊢
    rw [hsh]; exact h
  | .sl (some (g, eo)) nb sz l, v, _, hp, h => by
    have ho := hp g (by simp [stA])
    rcases h with h | h | ⟨h0, b, base, off, cap, vs, h1, h1', h2, h3, h4, h5, h6⟩
    · exact .inl (ho.trans h)
    · exact .inr (.inl h)
    · exact .inr (.inr ⟨h0, b, base, off, cap, vs, ho.trans h1, h1', h2, h3, h4, by rw [hsh]; exact h5, h6⟩)
  | .ptr .., _, hk, _, _ => by simp [closed] at hk
  | .nilp, _, _, _, h => h
  | .eptr .., _, hk, _, _ => by simp [closed] at hk
  | .agg cs, v, hk, hp, h => by
    obtain ⟨vs, h1, h2⟩ := h
    exact ⟨vs, h1, RepS.rn hsh cs vs hk hp h2⟩
  | .tup cs, v, hk, hp, h => by
    obtain ⟨vs, h1, h2⟩ := h
    exact ⟨vs, h1, RepSU.rn hsh cs vs hk hp h2⟩
  | .fn f cs, v, hk, hp, h => by
    obtain ⟨vs, h1, h2⟩ := h
    exact ⟨vs, h1, RepS.rn hsh cs vs hk hp h2⟩
  | .nilf, _, _, _, h => h
  | .yl _, _, _, _, h => h
  | .itp .., _, _, _, h => h
  | .bsl .., _, hk, _, _ => by simp [closed] at hk
theorem RepS.rn {w : World} {C C2 : Ctx} {gs : List Stamp} (hsh : C2.Sh = C.Sh) : ∀ (l : List AV) (vs : List Value), closedL l = true → (∀ g ∈ stAL l, C2.own (3, gs.idxOf g) = C.own g) → RepS w C l vs → RepS w C2 (rnL gs l) vs
  | [], _, _, _, h => h
  | c :: cs, _, hk, hp, h => by
    obtain ⟨v, r, h1, h0, h2, h3⟩ := h
    simp only [closedL, Bool.and_eq_true] at hk
    exact ⟨v, r, h1, h0, Rep.rn hsh c v hk.1 (fun p hp' => hp p (by simp [stAL, hp'])) h2, RepS.rn hsh cs r hk.2 (fun p hp' => hp p (by simp [stAL, hp'])) h3⟩
theorem RepSU.rn {w : World} {C C2 : Ctx} {gs : List Stamp} (hsh : C2.Sh = C.Sh) : ∀ (l : List AV) (vs : List Value), closedL l = true → (∀ g ∈ stAL l, C2.own (3, gs.idxOf g) = C.own g) → RepSU w C l vs → RepSU w C2 (rnL gs l) vs
  | [], _, _, _, h => h
  | c :: cs, _, hk, hp, h => by
    obtain ⟨v, r, h1, h2, h3⟩ := h
    simp only [closedL, Bool.and_eq_true] at hk
    exact ⟨v, r, h1, Rep.rn hsh c v hk.1 (fun p hp' => hp p (by simp [stAL, hp'])) h2, RepSU.rn hsh cs r hk.2 (fun p hp' => hp p (by simp [stAL, hp'])) h3⟩
end
def retOne (P : Program) (st : St) : ResultVar → Option AV
  | .tmp t => some (st.s t)
  | .cell t T =>
    match st.s t with
    | .ptr id off => need ((P.underlying T).isSome = true ∧ (P.info? T).isSome = true) ((st.bx id).bind fun cs => pvPart P T cs off)
    | _ => none
def retList (P : Program) (st : St) : List ResultVar → Option (List AV)
  | [] => some []
  | r :: rs => (retOne P st r).bind fun v => (retList P st rs).bind fun vs => some (v :: vs)
def retAV (P : Program) (st : St) (rs : List ResultVar) : Option AV :=
  (retList P st rs).bind fun
    | [v] => some v
    | vs => some (.tup vs)
def retOk (st : St) (v : AV) : Prop := closed v = true ∧ (stA v).Nodup ∧ ∀ g ∈ stA v, st.cons g = false ∧ st.frz g = false
def retS (P : Program) (rs : List ResultVar) (r : AV) : Exit → St → Prop
  | .ret, st => ∃ v, retAV P st rs = some v ∧ retOk st v ∧ rnA (stA v) v = r
  | .normal, st => ∃ v, retAV P st rs = some v ∧ retOk st v ∧ rnA (stA v) v = r
  | _, _ => False
theorem retOne_ok {X : Ent} {st : St} {C : Ctx} {a : Act} {w : World} (hc : Conc X st C a w) {x : ResultVar} {v : AV} (h : retOne P st x = some v) :
    ∃ u, ((match x with
      | .tmp t => pure (a.tmps.getD t undef)
      | .cell ad t => do loadVar t (← asAddr (a.tmps.getD ad undef))) : Sem Value).run P w = .ok u w ∧ Rep w C v u := by
  cases x with
  | tmp t =>
    simp only [retOne, Option.some.injEq] at h
    subst h
    exact ⟨_, rfl, hc.slots t⟩
  | cell t T =>
    simp only [retOne] at h
    split at h
    · rename_i id off hs
      obtain ⟨⟨hT, hI⟩, h⟩ := need_some h
      obtain ⟨cs, hcs, h⟩ := Option.bind_eq_some_iff.1 h
      have hp := hc.slots t
      rw [hs] at hp
      obtain ⟨b, hb, hp⟩ := hp
      obtain ⟨b', vs, hb', hcell, hr⟩ := RepS_of_box (hc.boxes _ _ hcs)
      obtain rfl : b = b' := by rw [hb] at hb'; exact Option.some.inj hb'
      obtain ⟨u, hu, hv⟩ := load_part h hT hI hcell hr
      refine ⟨u, ?_, hv⟩
      simp only [Sem.run_bind, hp, asAddr, Sem.run_pure, Result.andThen_ok]
      simpa [Instr.loadAt, Instr.sureAddr] using hu
    · cases h
theorem retList_ok {X : Ent} {st : St} {C : Ctx} {a : Act} {w : World} (hc : Conc X st C a w) : ∀ (rs : List ResultVar) (vs : List AV), retList P st rs = some vs →
    ∃ us : List Value, (rs.mapM (fun x => (match x with
      | .tmp t => pure (a.tmps.getD t undef)
      | .cell ad t => do loadVar t (← asAddr (a.tmps.getD ad undef)) : Sem Value))).run P w = .ok us w ∧ RepSU w C vs us ∧ us.length = vs.length
  | [], vs, h => by cases h; exact ⟨[], rfl, rfl, rfl⟩
  | r :: rs, vs, h => by
    simp only [retList] at h
    obtain ⟨v, h1, h⟩ := Option.bind_eq_some_iff.1 h
    obtain ⟨vs', h2, h⟩ := Option.bind_eq_some_iff.1 h
    cases h
    obtain ⟨u, hu, hv⟩ := retOne_ok hc h1
    obtain ⟨us, hus, hr, hl⟩ := retList_ok hc rs vs' h2
    refine ⟨u :: us, ?_, ⟨u, us, rfl, hv, hr⟩, by simp [hl]⟩
    rw [List.mapM_cons]
    simp only [Sem.run_bind, hu, Result.andThen_ok, hus, Sem.run_pure]
theorem retAV_ok {X : Ent} {st : St} {C : Ctx} {a : Act} {w : World} (hc : Conc X st C a w) {fn : Func} {v : AV} (h : retAV P st fn.results.toList = some v) :
    ∃ u, (results fn a.tmps).run P w = .ok u w ∧ Rep w C v u := by
  unfold retAV at h
  obtain ⟨vs, h1, h2⟩ := Option.bind_eq_some_iff.1 h
  obtain ⟨us, hus, hr, hl⟩ := retList_ok hc _ _ h1
  have hrun : (fn.results.mapM (fun x => (match x with
      | .tmp t => pure (a.tmps.getD t undef)
      | .cell ad t => do loadVar t (← asAddr (a.tmps.getD ad undef)) : Sem Value))).run P w = .ok us.toArray w := by
    rw [Array.mapM_eq_mapM_toList, Sem.run_map, hus]
    rfl
  refine ⟨if h : us.toArray.size = 1 then us.toArray[0] else .tuple us.toArray, ?_, ?_⟩
  · unfold results
    rw [Sem.run_bind]
    refine (congrArg (fun r => Result.andThen r _) (hrun : _)).trans ?_
    rfl
  · split at h2
    · cases h2
      obtain ⟨u, r, rfl, hv, hr'⟩ := hr
      simp only [RepSU] at hr'; subst hr'
      simpa using hv
    · rename_i hne
      cases h2
      have : us.toArray.size ≠ 1 := by
        intro e
        simp only [List.size_toArray] at e
        rw [hl] at e
        match vs, e with
        | [x], _ => exact hne x rfl
      rw [dif_neg this]
      exact ⟨us, rfl, hr⟩
def entry (args : List AV) : St :=
  { s := fun t => (args[t]?).getD .undef, bx := fun _ => none, cons := fun _ => false, frz := fun _ => false, made := fun _ => false, res := fun _ => none }
theorem MemOk.putObj {X : Ent} {frz : Stamp → Bool} {C : Ctx} {w : World} (m : MemOk X frz C w) {r : Nat} (o : Obj) (hr : X.mine r) : MemOk X frz C (w.putObj r o) where
  shIn b hb := by rw [World.putObj_size]; exact m.shIn b hb
  shFrom := m.shFrom
  shOld := m.shOld
  ownIn g b base h := by rw [World.putObj_size]; exact m.ownIn g b base h
  ownOne := m.ownOne
  ownBox := m.ownBox
  ownSh := m.ownSh
  ownFrz := m.ownFrz
  ownMine := m.ownMine
  boxIn id b h := by rw [World.putObj_size]; exact m.boxIn id b h
  boxOne := m.boxOne
  boxSh := m.boxSh
  boxMine := m.boxMine
  kept b hb hn := by
    have : b ≠ r := fun e => by
      subst e
      rcases hr with hr | hr
      · omega
      · exact hn hr
    rw [World.putObj_heap_other this]; exact m.kept b hb hn
  size := by rw [World.putObj_size]; exact m.size
  os := m.os
  tape := m.tape
  output := m.output
theorem MemOk.toPut {X : Ent} {frz : Stamp → Bool} {C : Ctx} {w : World} (m : MemOk X frz C w) {r : Nat} (o : Obj) (hs : ¬ C.Sh r) (ht : ¬ Touch frz C r) : C.To w (w.putObj r o) C :=
  ⟨fun b hb => ⟨hb, World.putObj_heap_other fun e => hs (e ▸ hb)⟩, fun _ _ hb => hb, fun g => .inr (.inr ⟨rfl, fun b base hb => World.putObj_heap_other fun e => by
    subst e
    cases hf : frz g with
    | true => exact hs (m.ownFrz g b base hb hf)
    | false => exact ht (.inl ⟨g, base, hb, hf⟩)⟩)⟩
/-- A block that is nobody's, and that nobody looks at, turns. -/
theorem Conc.putObj {X : Ent} {st : St} {C : Ctx} {a : Act} {w : World} (hc : Conc X st C a w) {r : Nat} (o : Obj) (hr : X.mine r) (hs : ¬ C.Sh r) (ht : ¬ Touch st.frz C r) {ds : List Deferred}
    (hf : Frg X (st.s X.n) st.frz C ds (w.putObj r o)) : Conc X st C { a with defers := ds } (w.putObj r o) where
  n := hc.n
  slots k := Rep.to (hc.mem.toPut o hs ht) _ _ (hc.slots k)
  frg := hf
  boxes id cs hid := by
    obtain ⟨b, c, e, lo, hi, h1, h2, h3, h4⟩ := hc.boxes id cs hid
    have : b ≠ r := fun e => ht (e ▸ .inr ⟨id, h1⟩)
    exact ⟨b, c, e, lo, hi, h1, (World.putObj_heap_other this).trans h2, h3, RepS.to (hc.mem.toPut o hs ht) cs _ h4⟩
  boxSome := hc.boxSome
  mem := hc.mem.putObj o hr
  cons := hc.cons
  made := hc.made
  tg := hc.tg
  tgInj := hc.tgInj
  tgMade := hc.tgMade
theorem FG.move {X : Ent} {v : AV} {C C' : Ctx} {w w' : World} (hi : X.it = false) (h : FG X v C w) (hk : ∀ l s p, C.fo l → w.heap[l]? = some (.stringIter s p) → w'.heap[l]? = w.heap[l]?)
    (hf : ∀ b, C.fo b → C'.fo b) (hs : ∀ b, C.fo b → ¬ C.Sh b → ¬ C'.Sh b) : FG X v C' w' := by
  unfold FG at h ⊢
  split
  · rw [hi] at h; cases h.1
  · obtain ⟨h4, h5, h6, h7⟩ := h
    exact ⟨(hk _ _ _ h5 h4).trans h4, hf _ h5, h6, hs _ h5 h7⟩
  · trivial
theorem Conc.close {X : Ent} {st : St} {C : Ctx} {a : Act} (hd : X.dm = false) (hi : X.it = false) : ∀ (rs : List Nat) {w : World}, a.defers = rs.map collD → Conc X st C a w →
    ∃ w', Conc X st C { a with defers := [] } w' ∧ ∀ (fn : Func) (tmps : Array Value) (R : Ending → World → Prop), LeavesIn (Fr none) 0 P fn tmps R [] .returning w' → LeavesInM (Fr none) 0 P fn tmps R a.defers .returning w := by
  intro rs
  induction rs generalizing a with
  | nil =>
    intro w hds hc
    refine ⟨w, ?_, fun fn tmps R h => by rw [hds]; exact h⟩
    have : a = { a with defers := [] } := by cases a; simp at hds; subst hds; rfl
    rw [← this]; exact hc
  | cons r rs ih =>
    intro w hds hc
    obtain ⟨h1, rs', h2, h3, h4, h5⟩ := hc.frg.marks hd
    have hrs : rs' = r :: rs := by
      rw [hds] at h2
      have inj : ∀ (l l' : List Nat), l.map collD = l'.map collD → l = l' := by
        intro l
        induction l with
        | nil => intro l' h; cases l' with
          | nil => rfl
          | cons => cases h
        | cons x l ihl => intro l' h; cases l' with
          | nil => cases h
          | cons y l' =>
            simp only [List.map_cons, List.cons.injEq] at h
            have : x = y := by have := h.1; unfold collD at this; simpa using this
            rw [this, ihl l' h.2]
      exact (inj _ _ h2).symm
    subst hrs
    obtain ⟨k1, k2, k3, k4⟩ := h5 r (by simp)
    have ht : ¬ Touch st.frz C r := fun ht => hc.frg.out r ht k3
    have hnd := List.nodup_cons.1 h4
    have hc1 : Conc X st C { a with defers := rs.map collD } (w.putObj r (.deferred none)) := by
      refine hc.putObj (.deferred none) (.inl k2) k4 ht ?_
      refine ⟨fun x => (by rw [hd] at x; cases x), fun _ => ⟨h1, rs, rfl, fun x => (by rw [hi] at x; cases x), hnd.2, fun r' hr' => ?_⟩, FG.move hi hc.frg.gh (fun l s p _ hl => World.putObj_heap_other fun e => by subst e; rw [k1] at hl; cases hl) (fun _ h => h) (fun _ _ h => h), fun b hb => (by rw [World.putObj_size]; exact hc.frg.fin b hb), hc.frg.out⟩
      obtain ⟨q1, q2, q3, q4⟩ := h5 r' (by simp [hr'])
      have hne : r' ≠ r := fun e => hnd.1 (by rw [← e]; exact hr')
      exact ⟨(World.putObj_heap_other hne).trans q1, q2, q3, q4⟩
    obtain ⟨w', hw1, hw2⟩ := ih rfl hc1
    refine ⟨w', hw1, fun fn tmps R h => ?_⟩
    rw [hds]
    exact ⟨by simp, .inl ⟨r, _, rfl, run_takeDeferred k1, hw2 fn tmps R h⟩⟩
/-- A function's contract out of its code's walk. -/
theorem calls_of_conc {X : Ent} {st : St} {C : Ctx} {f : FuncId} {fn : Func} {c : Code} {args : Array Value} {w : World} {R : Ending → World → Prop} {Q : Exit → St → Prop} (hf : P.funcs[f]? = some fn) (hb : fn.body = some c)
    (hro : X.round = none) (hd : X.dm = false) (hy : YieldOk P X) (h : AWP P X c Q st) (hc : Conc X st C { tmps := args ++ Array.replicate (fn.ntmps - args.size) undef, defers := [] } w)
    (hQ : ∀ e st' C' a' w', Q e st' → Conc X st' C' a' w' → a'.defers = [] → (e = .ret ∨ e = .normal) ∧ ∃ v, (results fn a'.tmps).run P w' = .ok v w' ∧ R (.returned v) w') : Calls P f args w R := by
  refine (callsIn_wide (n := 0)).1 (callsIn_of_wp_marks hf hb trivial ?_)
  have h' := h hy C _ w hc
  rw [hro] at h'
  refine wpIn_mono (F := Fr none) h' ?_
  rintro e a' w' ⟨st', C', h1, h2⟩
  have key : ∃ w'', Conc X st' C' { a' with defers := [] } w'' ∧ ∀ (fn : Func) (tmps : Array Value) (R : Ending → World → Prop), LeavesIn (Fr none) 0 P fn tmps R [] .returning w'' → LeavesInM (Fr none) 0 P fn tmps R a'.defers .returning w' := by
    obtain ⟨_, rs, k2, k3, _⟩ := h2.frg.marks hd
    cases hi : X.it with
    | false => exact Conc.close hd hi rs k2 h2
    | true =>
      have e0 := k3 hi
      subst e0
      have e1 : a'.defers = [] := k2
      have : a' = { a' with defers := [] } := by cases a'; simp at e1; subst e1; rfl
      exact ⟨w', by rw [← this]; exact h2, fun fn tmps R h => by rw [e1]; exact h⟩
  obtain ⟨w'', k1, k2⟩ := key
  obtain ⟨he, v, h3, h4⟩ := hQ e st' C' _ w'' h1 k1 rfl
  have := k2 fn a'.tmps R ⟨v, h3, h4⟩
  rcases he with rfl | rfl
  · exact this
  · exact this
theorem yieldOk_none {X : Ent} (h : ∀ l s d t M S w, ¬ X.J l s d t M S w) : YieldOk P X := fun l d t as M S w Sh vals hJ => (h _ _ _ _ _ _ w (hJ w (.refl w))).elim
/-- A function's contract, out of its code. -/
theorem CallsP.intro {f : FuncId} {fn : Func} {c : Code} {args : List AV} {r : AV} (hf : P.funcs[f]? = some fn) (hb : fn.body = some c) (hn : args.length ≤ fn.ntmps)
    (h : ∀ X : Ent, X.n = fn.ntmps → AWP P X c (retS P fn.results.toList r) (entry args)) : CallsP P f args r := by
  intro w Sh vals ht hsh hargs
  have hsz : vals.length = args.length := hargs.1.symm
  let X := Ent.of w Sh fn.ntmps ht hsh
  let C : Ctx := ⟨Sh, fun _ => .none, fun _ => none, fun _ => False⟩
  have hc : Conc X (entry args) C { tmps := vals.toArray ++ Array.replicate (fn.ntmps - vals.toArray.size) undef, defers := [] } w := by
    refine { n := ?_, slots := ?_, frg := ?_, boxes := fun id cs hh => (by cases hh), boxSome := fun id b hh => (by cases hh), mem := ?_, cons := fun g => ⟨fun hh => (by cases hh), fun hh => (by cases hh)⟩,
             made := fun d hh => absurd rfl hh, tg := fun d hh => (by intro x; cases x), tgInj := fun d d' hh _ _ x => (by cases x), tgMade := fun d x => by cases x }
    · simp [X, Ent.of]; omega
    · intro t
      simp only [entry]
      cases ht : args[t]? with
      | none => trivial
      | some v =>
        simp only [Option.getD_some]
        have hlt := (List.getElem?_eq_some_iff.1 ht).1
        have hvl : t < vals.length := by omega
        have hv : vals[t]? = some vals[t] := List.getElem?_eq_getElem hvl
        have := hargs.2 t v _ ht hv
        have e : (vals.toArray ++ Array.replicate (fn.ntmps - vals.toArray.size) undef).getD t undef = vals[t] := by
          rw [Array.getD_eq_getD_getElem?, Array.getElem?_append_left (by simpa using hvl)]
          simp [hvl]
        rw [e]
        exact Rep.of_shared (C := C) v _ this
    · have e : (entry args).s X.n = .undef := by
        show ((args[fn.ntmps]?).getD .undef) = _
        rw [List.getElem?_eq_none (by omega)]; rfl
      rw [e]
      exact ⟨fun x => (by cases x), fun _ => ⟨rfl, [], rfl, fun _ => rfl, List.nodup_nil, fun r hr => (by cases hr)⟩, trivial, fun b hb => hb.elim, fun b _ hb => hb⟩
    · exact { shIn := hsh, shFrom := fun b hb => .inl hb, shOld := fun b hb => hb, ownIn := fun g b base hh => (by cases hh), ownOne := fun g g' b _ _ hh => (by cases hh),
              ownBox := fun g b base id hh => (by cases hh), ownSh := fun g b base hh => (by cases hh), ownFrz := fun g b base hh => (by cases hh), ownMine := fun g b base hh => (by cases hh),
              boxIn := fun id b hh => (by cases hh), boxOne := fun id id' b hh => (by cases hh), boxSh := fun id b hh => (by cases hh), boxMine := fun id b hh => (by cases hh),
              kept := fun b _ _ => rfl, size := Nat.le_refl _, os := rfl, tape := rfl, output := rfl }
  refine calls_of_conc hf hb rfl rfl (yieldOk_none fun _ _ _ _ _ _ _ h => h) (h X rfl) hc ?_
  have fin : ∀ (a' : Act) (w' : World) (st' : St) (C' : Ctx), (∃ v, retAV P st' fn.results.toList = some v ∧ retOk st' v ∧ rnA (stA v) v = r) → Conc X st' C' a' w' →
      ∃ v, (results fn a'.tmps).run P w' = .ok v w' ∧ ∃ v2 C2, Ending.returned v = .returned v2 ∧ Rep w' C2 r v2 ∧ MemOk (Ent.of w Sh 0 ht hsh) (fun _ => false) C2 w' ∧ (∀ id, C2.box id = none) ∧ (∀ g, C2.own g ≠ .dead) := by
    rintro a' w' st' C' ⟨rv, h1, ⟨h2, h3, h4⟩, rfl⟩ hc'
    obtain ⟨u, hu, hr⟩ := retAV_ok hc' h1
    refine ⟨u, hu, u, ⟨C'.Sh, fun g => if g.1 = 3 then (match (stA rv)[g.2]? with | some g => C'.own g | none => .none) else .none, fun _ => none, fun _ => False⟩, rfl, ?_, ?_, fun _ => rfl, ?_⟩
    · refine Rep.rn (C := C') (gs := stA rv) (by rfl) rv u h2 (fun g hg => ?_) hr
      have hi := List.idxOf_lt_length_of_mem hg
      simp only [if_true]
      rw [List.getElem?_eq_getElem hi, List.getElem_idxOf]
    · have m := hc'.mem
      have lk : ∀ (g : Stamp) b base, (if g.1 = 3 then (match (stA rv)[g.2]? with | some g => C'.own g | none => Own.none) else .none) = .live b base →
          ∃ g0, g.1 = 3 ∧ (stA rv)[g.2]? = some g0 ∧ C'.own g0 = .live b base ∧ st'.frz g0 = false := by
        intro g b base hg
        split at hg
        · rename_i e
          split at hg
          · rename_i g0 e0
            exact ⟨g0, e, e0, hg, (h4 g0 (List.mem_of_getElem? e0)).2⟩
          · cases hg
        · cases hg
      exact { shIn := m.shIn, shFrom := m.shFrom, shOld := m.shOld,
              ownIn := fun g b base hg => by obtain ⟨g0, _, _, hg0, _⟩ := lk g b base hg; exact m.ownIn g0 b base hg0,
              ownOne := fun g g' b base base' hg hg' _ => by
                obtain ⟨g0, e, e0, hg0, hf⟩ := lk g b base hg
                obtain ⟨g0', e', e0', hg0', hf'⟩ := lk g' b base' hg'
                have := m.ownOne g0 g0' b base base' hg0 hg0' hf
                subst this
                have hi := (List.getElem?_eq_some_iff.1 e0).1
                have := (List.getElem?_inj hi h3).1 (e0.trans e0'.symm)
                obtain ⟨x, y⟩ := g; obtain ⟨x', y'⟩ := g'
                simp only at e e' this
                rw [e, e', this],
              ownBox := fun g b base id hg _ hb => (by cases hb),
              ownSh := fun g b base hg _ hs => by obtain ⟨g0, _, _, hg0, hf⟩ := lk g b base hg; exact m.ownSh g0 b base hg0 hf hs,
              ownFrz := fun g b base hg hf => (by cases hf),
              ownMine := fun g b base hg _ => by obtain ⟨g0, _, _, hg0, hf⟩ := lk g b base hg; exact m.ownMine g0 b base hg0 hf,
              boxIn := fun id b hb => (by cases hb), boxOne := fun id id' b hb => (by cases hb), boxSh := fun id b hb => (by cases hb), boxMine := fun id b hb => (by cases hb),
              kept := m.kept, size := m.size, os := m.os, tape := m.tape, output := m.output }
    · intro g hg
      simp only at hg
      split at hg
      · split at hg
        · rename_i g0 e0
          have := (hc'.cons g0).2 hg
          rw [(h4 g0 (List.mem_of_getElem? e0)).1] at this; cases this
        · cases hg
      · cases hg
  rintro e st' C' a' w' h1 h2 _
  cases e with
  | normal => exact ⟨.inr rfl, fin a' w' st' C' h1 h2⟩
  | ret => exact ⟨.inl rfl, fin a' w' st' C' h1 h2⟩
  | _ => exact h1.elim
end Go.VS
