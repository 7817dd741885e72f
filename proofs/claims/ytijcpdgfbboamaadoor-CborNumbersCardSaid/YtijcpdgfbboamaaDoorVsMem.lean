/- Part of a framework that states what Go functions answer on values as data; it holds for every program of the model. -/
import Derived.Test.YtijcpdgfbboamaaDoorVsPv
namespace Go.VS
set_option linter.unusedVariables false
set_option linter.unusedSimpArgs false
set_option linter.unusedSectionVars false
open Go
variable {P : Program}

/-! ### Boxes -/

theorem Conc.boxNew {X : Ent} {st : St} {C : Ctx} {a : Act} {w : World} (h : Conc X st C a w) {id : Nat} (hfree : st.bx id = none) {cs : List AV} {vs : List Value} (e : TypeId)
    (hr : RepS w C cs vs) : Conc X { st with bx := upd st.bx id (some cs) } { C with box := upd C.box id (some w.heap.size) } a (w.alloc (.cells vs.toArray e)) := by
  have m := h.mem
  have hnone : C.box id = none := by
    cases hb : C.box id with
    | none => rfl
    | some b => have := h.boxSome id b hb; rw [hfree] at this; cases this
  have bne : ∀ id' b, upd C.box id (some w.heap.size) id' = some b → (id' = id ∧ b = w.heap.size) ∨ (id' ≠ id ∧ C.box id' = some b) := by
    intro id' b hb
    by_cases e' : id' = id
    · subst e'; simp at hb; exact .inl ⟨rfl, hb.symm⟩
    · rw [upd_ne _ _ e'] at hb; exact .inr ⟨e', hb⟩
  have t : C.To w (w.alloc (.cells vs.toArray e)) { C with box := upd C.box id (some w.heap.size) } :=
    ⟨fun b hb => ⟨hb, heap_alloc_ne (m.shIn b hb)⟩, fun id' b hb => by
      have : id' ≠ id := fun x => by subst x; rw [hnone] at hb; cases hb
      simp only [upd_ne _ _ this]; exact hb,
     fun g => .inr (.inr ⟨rfl, fun b base hb => heap_alloc_ne (m.ownIn g b base hb)⟩)⟩
  have ma := m.alloc (.cells vs.toArray e)
  refine { n := h.n, slots := fun k => Rep.to t _ _ (h.slots k), defers := h.defers, boxes := ?_, boxSome := ?_, mem := ?_, cons := h.cons, made := h.made, tg := h.tg, tgInj := h.tgInj, tgMade := h.tgMade }
  · intro id' cs' hid
    by_cases e' : id' = id
    · subst e'
      simp at hid; subst hid
      exact ⟨w.heap.size, vs.toArray, e, 0, 0, by simp, heap_alloc_new _ _, fun o _ => by omega, by simpa using RepS.to t cs vs hr⟩
    · change upd st.bx id (some cs) id' = some cs' at hid
      rw [upd_ne _ _ e'] at hid
      obtain ⟨b, c, e2, lo, hi, h1, h2, h3, h4⟩ := h.boxes id' cs' hid
      exact ⟨b, c, e2, lo, hi, t.box id' b h1, (heap_alloc_ne (m.boxIn id' b h1)).trans h2, h3, RepS.to t cs' _ h4⟩
  · intro id' b hb
    rcases bne id' b hb with ⟨rfl, _⟩ | ⟨e', hb⟩
    · simp
    · simp only [upd_ne _ _ e']; exact h.boxSome id' b hb
  · exact { shIn := ma.shIn, shFrom := ma.shFrom, shOld := ma.shOld, ownIn := ma.ownIn, ownOne := ma.ownOne,
            ownBox := fun g b base id' hg hf hb => by
              rcases bne id' b hb with ⟨_, rfl⟩ | ⟨_, hb⟩
              · have := m.ownIn g _ base hg; omega
              · exact m.ownBox g b base id' hg hf hb,
            ownSh := ma.ownSh, ownFrz := ma.ownFrz, ownMine := ma.ownMine,
            boxIn := fun id' b hb => by
              rcases bne id' b hb with ⟨_, rfl⟩ | ⟨_, hb⟩
              · simp
              · exact ma.boxIn id' b hb,
            boxOne := fun id1 id2 b h1 h2 => by
              rcases bne id1 b h1 with ⟨e1, b1⟩ | ⟨e1, g1⟩ <;> rcases bne id2 b h2 with ⟨e2, b2⟩ | ⟨e2, g2⟩
              · rw [e1, e2]
              · have := m.boxIn id2 _ g2; omega
              · have := m.boxIn id1 _ g1; omega
              · exact m.boxOne id1 id2 b g1 g2,
            boxSh := fun id' b hb hs => by
              rcases bne id' b hb with ⟨_, rfl⟩ | ⟨_, hb⟩
              · have := m.shIn _ hs; omega
              · exact m.boxSh id' b hb hs,
            boxMine := fun id' b hb => by
              rcases bne id' b hb with ⟨_, rfl⟩ | ⟨_, hb⟩
              · exact .inl m.size
              · exact m.boxMine id' b hb,
            kept := ma.kept, size := ma.size, os := ma.os, tape := ma.tape, output := ma.output,
            inB := fun id' b hb => by
              have := m.inB id' b hb
              have e' : id' ≠ id := fun e => by subst e; rw [hnone] at this; cases this
              simp only [upd_ne _ _ e']; exact this }

theorem heap_setCells_ne {b : Nat} : ∀ (vs : List Value) (o : Nat) (w : World) (k : Nat), k ≠ b → (w.setCells b o vs).heap[k]? = w.heap[k]?
  | [], _, _, _, _ => rfl
  | v :: vs, o, w, k, h => by
    rw [World.setCells, heap_setCells_ne vs (o + 1) _ k h]
    exact Go.RowKit.Below.heap_setCell w _ _ k h

theorem heap_setCells_size {b : Nat} : ∀ (vs : List Value) (o : Nat) (w : World), (w.setCells b o vs).heap.size = w.heap.size
  | [], _, _ => rfl
  | v :: vs, o, w => by
    rw [World.setCells, heap_setCells_size vs (o + 1)]
    simp [World.setCell]

theorem heap_setCell_at {w : World} {b o : Nat} {v : Value} {c : Array Value} {e : TypeId} {fr : Nat × Nat} (h : w.heap[b]? = some (.cells c e fr)) :
    (w.setCell ⟨b, o, none⟩ v).heap[b]? = some (.cells (c.setIfInBounds o v) e fr) := by
  simp [World.setCell, Array.getElem?_modify, h]

theorem heap_setCells_at {b : Nat} : ∀ (vs : List Value) (o : Nat) (w : World) (c : Array Value) (e : TypeId) (fr : Nat × Nat), w.heap[b]? = some (.cells c e fr) → o + vs.length ≤ c.size →
    (w.setCells b o vs).heap[b]? = some (.cells (putAt c.toList o vs).toArray e fr)
  | [], o, w, c, e, fr, h, _ => by simp [World.setCells, putAt, h]
  | v :: vs, o, w, c, e, fr, h, hl => by
    simp only [List.length_cons] at hl
    rw [World.setCells, heap_setCells_at vs (o + 1) _ _ e fr (heap_setCell_at h) (by simp; omega)]
    congr 2
    apply Array.ext'
    simp only
    apply List.ext_getElem?
    intro i
    rw [putAt_get (by simp; omega), putAt_get (by simp; omega)]
    simp only [Array.toList_setIfInBounds, List.getElem?_set, List.length_cons, Array.length_toList]
    by_cases h1 : i = o
    · subst h1
      rw [if_neg (by omega), if_pos rfl, if_pos (by omega), if_pos (by omega)]
      simp
    · by_cases h2 : o + 1 ≤ i ∧ i < o + 1 + vs.length
      · rw [if_pos h2, if_pos (by omega), show i - o = (i - (o + 1)) + 1 by omega, List.getElem?_cons_succ]
      · rw [if_neg h2, if_neg (fun e => h1 e.symm), if_neg (by omega)]

theorem setCells_os {b : Nat} : ∀ (vs : List Value) (o : Nat) (w : World), (w.setCells b o vs).os = w.os ∧ (w.setCells b o vs).tape = w.tape ∧ (w.setCells b o vs).output = w.output
  | [], _, _ => ⟨rfl, rfl, rfl⟩
  | v :: vs, o, w => by
    rw [World.setCells]
    exact setCells_os vs (o + 1) _

/-- A block of one's own is written: nothing else turns. -/
theorem MemOk.write {X : Ent} {frz : Stamp → Bool} {C : Ctx} {w : World} (m : MemOk X frz C w) {b o : Nat} {vs : List Value} (hb : X.mine b) : MemOk X frz C (w.setCells b o vs) where
  shIn k hk := by rw [heap_setCells_size]; exact m.shIn k hk
  shFrom := m.shFrom
  shOld := m.shOld
  ownIn g k base h := by rw [heap_setCells_size]; exact m.ownIn g k base h
  ownOne := m.ownOne
  ownBox := m.ownBox
  ownSh := m.ownSh
  ownFrz := m.ownFrz
  ownMine := m.ownMine
  boxIn id k h := by rw [heap_setCells_size]; exact m.boxIn id k h
  boxOne := m.boxOne
  boxSh := m.boxSh
  boxMine := m.boxMine
  kept k hk hn := by
    have : k ≠ b := fun e => by
      subst e
      rcases hb with hb | hb
      · omega
      · exact hn hb
    rw [heap_setCells_ne _ _ _ _ this]; exact m.kept k hk hn
  size := by rw [heap_setCells_size]; exact m.size
  os := (setCells_os vs o w).1.trans m.os
  tape := (setCells_os vs o w).2.1.trans m.tape
  output := (setCells_os vs o w).2.2.trans m.output

/-- A box is written. -/
theorem Conc.boxSet {X : Ent} {st : St} {C : Ctx} {a : Act} {w : World} (h : Conc X st C a w) {id b : Nat} {cs l : List AV} {us : List Value} {off : Nat}
    (hid : st.bx id = some cs) (hb : C.box id = some b) (hr : RepS w C l us) (hl : off + l.length ≤ cs.length) (hno : ∀ g base, C.own g ≠ .live b base) :
    Conc X { st with bx := upd st.bx id (some (putAt cs off l)) } C a (w.setCells b off us) := by
  have m := h.mem
  have t : C.To w (w.setCells b off us) C := by
    refine ⟨fun k hk => ⟨hk, heap_setCells_ne _ _ _ _ fun e => ?_⟩, fun _ _ hb => hb, fun g => .inr (.inr ⟨rfl, fun k base hk => heap_setCells_ne _ _ _ _ fun e => ?_⟩)⟩
    · subst e; exact m.boxSh id _ hb hk
    · subst e; exact hno g base hk
  refine { n := h.n, slots := fun k => Rep.to t _ _ (h.slots k), defers := h.defers, boxes := ?_, boxSome := ?_, mem := m.write (m.boxMine id b hb), cons := h.cons, made := h.made, tg := h.tg, tgInj := h.tgInj, tgMade := h.tgMade }
  · intro id' cs' hid'
    by_cases e' : id' = id
    · subst e'
      simp at hid'; subst hid'
      obtain ⟨b', c, e, lo, hi, h1, h2, h3, h4⟩ := h.boxes id' cs hid
      obtain rfl : b = b' := by rw [hb] at h1; exact Option.some.inj h1
      have hlen := h4.length
      have hlen' := hr.length
      have hsz : off + us.length ≤ c.size := by rw [Array.length_toList] at hlen; omega
      refine ⟨b, _, e, lo, hi, hb, heap_setCells_at us off w c e (lo, hi) h2 hsz, fun o ho => h3 o ?_, ?_⟩
      · simp only [List.size_toArray] at ho
        rw [putAt_length (by rw [Array.length_toList]; exact hsz), Array.length_toList] at ho
        exact ho
      · exact (RepS.to t cs _ h4).putAt (RepS.to t l _ hr) off
    · change upd st.bx id (some (putAt cs off l)) id' = some cs' at hid'
      rw [upd_ne _ _ e'] at hid'
      obtain ⟨b', c, e2, lo, hi, h1, h2, h3, h4⟩ := h.boxes id' cs' hid'
      have hne : b' ≠ b := fun x => e' (m.boxOne id' id b (x ▸ h1) hb)
      exact ⟨b', c, e2, lo, hi, h1, (heap_setCells_ne _ _ _ _ hne).trans h2, h3, RepS.to t cs' _ h4⟩
  · intro id' b' hb'
    by_cases e' : id' = id
    · subst e'; simp
    · simp only [upd_ne _ _ e']; exact h.boxSome id' b' hb'

theorem Conc.boxNoOwn {X : Ent} {st : St} {C : Ctx} {a : Act} {w : World} (h : Conc X st C a w) {id b : Nat} (hb : C.box id = some b) : ∀ g base, C.own g ≠ .live b base := by
  intro g base hg
  by_cases hf : st.frz g = true
  · exact h.mem.boxSh id b hb (h.mem.ownFrz g b base hg hf)
  · exact h.mem.ownBox g b base id hg (by simpa using hf) hb

/-! ### One operation -/

/-- One operation leads from a state to another one. -/
def OpStep (P : Program) (X : Ent) (st : St) (o : Oper) (st' : St) : Prop :=
  ∀ (C : Ctx) (a : Act) (w : World), Conc X st C a w → ∀ (K : Act → World → Prop) (Q : Exit → Act → World → Prop), (∀ C' a' w', Conc X st' C' a' w' → K a' w') → o.wp P a w K Q

theorem OpStep.value {X : Ent} {st st' : St} {o : Oper} (h : ∀ (C : Ctx) (a : Act) (w : World), Conc X st C a w →
    ∃ u w' C', (execOp a.eval o).run P w = .ok (.value u) w' ∧ Conc X st' C' (a.put o.dst u) w') : OpStep P X st o st' := by
  intro C a w hc K Q hK
  obtain ⟨u, w', C', h1, h2⟩ := h C a w hc
  unfold Oper.wp
  rw [h1, Oper.upon_value]
  exact hK _ _ _ h2

theorem OpStep.skip {X : Ent} {st st' : St} {o : Oper} (h : ∀ (C : Ctx) (a : Act) (w : World), Conc X st C a w →
    ∃ w' C', (execOp a.eval o).run P w = .ok .skip w' ∧ Conc X st' C' (a.put o.dst undef) w') : OpStep P X st o st' := by
  intro C a w hc K Q hK
  obtain ⟨w', C', h1, h2⟩ := h C a w hc
  unfold Oper.wp
  rw [h1, Oper.upon_skip]
  exact hK _ _ _ h2

def St.fits (n : Nat) (d : Option Nat) : Bool :=
  match d with
  | some d => decide (d < n)
  | none => true

theorem Conc.putO {X : Ent} {st : St} {C : Ctx} {a : Act} {w : World} (h : Conc X st C a w) {d : Option Nat} (hd : St.fits X.n d = true) {v : AV} {u : Value}
    (hv : Rep w C v u) : Conc X (st.putO d v) C (a.put d u) w := by
  cases d with
  | none => exact h
  | some d => exact h.put (by simpa [St.fits] using hd) hv

theorem step_pv {X : Ent} {st : St} {o : Oper} {v : AV} (h : pv P st o = some v) (hd : St.fits X.n o.dst = true) : OpStep P X st o (st.putO o.dst v) :=
  OpStep.value fun C a w hc => by
    obtain ⟨u, hu, hr⟩ := pv_ok hc h
    exact ⟨u, w, C, hu, hc.putO hd hr⟩

/-- A variable, or a copy of a value, in memory. -/
def newBox (P : Program) (st : St) (o : Oper) : Option (List AV) :=
  match o.op with
  | .alloc T => zeroAV P T
  | .box T x => need (st.solid (st.ev P T x) = true) (some (st.ev P T x).cells)
  | _ => none

theorem step_box {X : Ent} {st : St} {o : Oper} {cs : List AV} {d : Nat} (h : newBox P st o = some cs) (hd : o.dst = some d) (hn : d < X.n) (hfree : st.bx d = none) :
    OpStep P X st o ({ st with bx := upd st.bx d (some cs) }.put d (.ptr d 0)) :=
  OpStep.value fun C a w hc => by
    unfold newBox at h
    split at h
    · rename_i T ho
      obtain ⟨z, hz1, hz2, _⟩ := zeroAV_ok h
      have hb := hc.boxNew hfree T (hz2 w C)
      refine ⟨.pointer (some ⟨w.heap.size, 0, none⟩), w.alloc (.cells z.cells T), { C with box := upd C.box d (some w.heap.size) }, ?_, ?_⟩
      · simp [execOp, ho, Instr.alloc, hz1, newVar, newRow]
      · rw [hd]
        exact Conc.put (by simpa using hb) hn ⟨w.heap.size, by simp, rfl⟩
    · rename_i T x ho
      obtain ⟨hs, h'⟩ := need_some h
      cases h'
      have hr := rep_solid hc.cons hs (hc.ev P T x)
      have hb := hc.boxNew hfree T hr
      refine ⟨.pointer (some ⟨w.heap.size, 0, none⟩), w.alloc (.cells (a.eval x).cells T), { C with box := upd C.box d (some w.heap.size) }, ?_, ?_⟩
      · simp [execOp, ho, Instr.box, newVar, newRow]
      · rw [hd]
        exact Conc.put (by simpa using hb) hn ⟨w.heap.size, by simp, rfl⟩
    · cases h

/-- A store into a box. -/
def storeBox (P : Program) (st : St) (o : Oper) : Option (Nat × List AV) :=
  match o.op with
  | .store T a x =>
    match st.ev P 0 a with
    | .ptr id off => (st.bx id).bind fun cs =>
        need ((P.info? T).isSome = true ∧ st.solid (st.ev P T x) = true ∧ (st.ev P T x).cells.length = P.cellsOf T ∧ off + P.cellsOf T ≤ cs.length) (some (id, putAt cs off (st.ev P T x).cells))
    | _ => none
  | _ => none

theorem run_storeAt {T : TypeId} (hI : (P.info? T).isSome = true) {w : World} {b off : Nat} {v : Value} {c : Array Value} {e : TypeId} {lo hi : Nat} (hb : w.heap[b]? = some (.cells c e (lo, hi)))
    (hfr : ∀ o, o < c.size → ¬ (lo ≤ o ∧ o < hi)) (hs : v.cells.size = P.cellsOf T) (hl : off + v.cells.size ≤ c.size) (h1 : ∀ u ∈ v.cells.toList, u.oneCell' = true) :
    (Instr.storeAt T (.pointer (some ⟨b, off, none⟩)) v).run P w = .ok () (w.setCells b off v.cells.toList) := by
  have hst := run_storeCells_cells (P := P) b off v.cells.toList 0 w
    (fun j hj => by simp only [Array.length_toList] at hj; simp only [World.cell?, hb]; simp; omega)
    (fun j hj => by simp only [Array.length_toList] at hj; have := hfr (off + 0 + j) (by omega); simp only [World.frozen?, hb]; simp; omega) h1
  simp only [Nat.add_zero] at hst
  simp [Instr.storeAt, Instr.sureAddr, storeVar, run_sizeOf hI, hs, hst]

theorem RepS.one {w : World} {C : Ctx} : ∀ {l : List AV} {vs : List Value}, RepS w C l vs → ∀ u ∈ vs, u.oneCell' = true
  | [], _, h, u, hu => by simp only [RepS] at h; simp [h] at hu
  | e :: l, _, h, u, hu => by
    obtain ⟨v, r, rfl, h1, _, h2⟩ := h
    rcases List.mem_cons.1 hu with rfl | hu
    · exact h1
    · exact RepS.one h2 u hu

theorem step_store {X : Ent} {st : St} {o : Oper} {id : Nat} {cs : List AV} (h : storeBox P st o = some (id, cs)) (hd : o.dst = none) : OpStep P X st o { st with bx := upd st.bx id (some cs) } :=
  OpStep.skip fun C a w hc => by
    unfold storeBox at h
    split at h
    · rename_i T ad x ho
      split at h
      · rename_i id' off hp
        obtain ⟨cs0, hcs, h'⟩ := Option.bind_eq_some_iff.1 h
        obtain ⟨⟨hI, hs, hl, hle⟩, h''⟩ := need_some h'
        cases h''
        have hptr := hc.ev P 0 ad
        rw [hp] at hptr
        obtain ⟨b, hb, hptr⟩ := hptr
        have hr := rep_solid hc.cons hs (hc.ev P T x)
        obtain ⟨b', c, e, lo, hi, h1, h2, h3, h4⟩ := hc.boxes _ _ hcs
        obtain rfl : b = b' := by rw [hb] at h1; exact Option.some.inj h1
        have hlen := hr.length
        have hlen0 := h4.length
        rw [Array.length_toList] at hlen hlen0
        refine ⟨w.setCells b off (a.eval x).cells.toList, C, ?_, ?_⟩
        · have := run_storeAt (P := P) hI h2 h3 (v := a.eval x) (off := off) (by omega) (by omega) (fun u hu => hr.one u hu)
          simp [execOp, ho, hptr, this]
        · rw [hd]
          exact hc.boxSet hcs hb hr (by omega) (hc.boxNoOwn hb)
      · cases h
    · cases h
end Go.VS
