/- Part of a framework that states what Go functions answer on values as data; it holds for every program of the model. -/
import Derived.Test.YtfemncfhiihckaaDoorVsPv
import Derived.RangeFuncLeaves
import Derived.RangeFuncCalls
import Derived.OrdersIn
import Derived.Laws.MakeOwn
import Derived.Deep.Upon
import Derived.Lib.ConvBytes
import Derived.Laws.IdiomStrings
namespace Go.VS
set_option linter.unusedVariables false
set_option linter.unusedSimpArgs false
set_option linter.unusedSectionVars false
open Go
variable {P : Program}
theorem Conc.boxNew {X : Ent} {st : St} {C : Ctx} {a : Act} {w : World} (h : Conc X st C a w) {id : Nat} (hfree : st.bx id = none) {cs : List AV} {vs : List Value} (e : TypeId)
    (hr : RepS w C cs vs) : Conc X { st with bx := upd st.bx id (some cs) } { C with box := upd C.box id (some w.heap.size) } a (w.alloc (.cells vs.toArray e)) := by
  have m := h.mem
  have hnone : C.box id = none := by
    cases hb : C.box id with
    | none => rfl
    | some b => have := h.boxSome id b hb; rw [hfree] at this; cases this
  have bne : ∀ id' b, upd C.box id (some w.heap.size) id' = some b → (id' = id ∧ b = w.heap.size) ∨ (id' ≠ id ∧ C.box id' = some b) := by
    intro id' b hb
    by_cases e' : id' = id
    · subst e'; simp at hb; exact .inl ⟨rfl, hb.symm⟩
    · rw [upd_ne _ _ e'] at hb; exact .inr ⟨e', hb⟩
  have t : C.To w (w.alloc (.cells vs.toArray e)) { C with box := upd C.box id (some w.heap.size) } :=
    ⟨fun b hb => ⟨hb, heap_alloc_ne (m.shIn b hb)⟩, fun id' b hb => by
      have : id' ≠ id := fun x => by subst x; rw [hnone] at hb; cases hb
      simp only [upd_ne _ _ this]; exact hb,
     fun g => .inr (.inr ⟨rfl, fun b base hb => heap_alloc_ne (m.ownIn g b base hb)⟩)⟩
  have ma := m.alloc (.cells vs.toArray e)
  refine { n := h.n, slots := fun k => Rep.to t _ _ (h.slots k), frg := ?_, boxes := ?_, boxSome := ?_, mem := ?_, cons := h.cons, made := h.made, tg := h.tg, tgInj := h.tgInj, tgMade := h.tgMade }
  · refine h.frg.go (.same fun a u hr => Rep.to t a u hr) rfl (fun b' hb' => ?_) (fun _ hb => .inl hb) (fun _ hb _ => heap_alloc_ne hb) (by simp) rfl rfl rfl
    rcases hb' with ⟨g, bs, hg, hf⟩ | ⟨id', hb'⟩
    · exact .inl (.inl ⟨g, bs, hg, hf⟩)
    · rcases bne id' b' hb' with ⟨_, rfl⟩ | ⟨_, hb'⟩
      · exact .inr fun hf => by have := h.frg.fin _ hf; omega
      · exact .inl (.inr ⟨id', hb'⟩)
  · intro id' cs' hid
    by_cases e' : id' = id
    · subst e'
      simp at hid; subst hid
      exact ⟨w.heap.size, vs.toArray, e, 0, 0, by simp, heap_alloc_new _ _, fun o _ => by omega, by simpa using RepS.to t cs vs hr⟩
    · change upd st.bx id (some cs) id' = some cs' at hid
      rw [upd_ne _ _ e'] at hid
      obtain ⟨b, c, e2, lo, hi, h1, h2, h3, h4⟩ := h.boxes id' cs' hid
      exact ⟨b, c, e2, lo, hi, t.box id' b h1, (heap_alloc_ne (m.boxIn id' b h1)).trans h2, h3, RepS.to t cs' _ h4⟩
  · intro id' b hb
    rcases bne id' b hb with ⟨rfl, _⟩ | ⟨e', hb⟩
    · simp
    · simp only [upd_ne _ _ e']; exact h.boxSome id' b hb
  · exact { shIn := ma.shIn, shFrom := ma.shFrom, shOld := ma.shOld, ownIn := ma.ownIn, ownOne := ma.ownOne,
            ownBox := fun g b base id' hg hf hb => by
              rcases bne id' b hb with ⟨_, rfl⟩ | ⟨_, hb⟩
              · have := m.ownIn g _ base hg; omega
              · exact m.ownBox g b base id' hg hf hb,
            ownSh := ma.ownSh, ownFrz := ma.ownFrz, ownMine := ma.ownMine,
            boxIn := fun id' b hb => by
              rcases bne id' b hb with ⟨_, rfl⟩ | ⟨_, hb⟩
              · simp
              · exact ma.boxIn id' b hb,
            boxOne := fun id1 id2 b h1 h2 => by
              rcases bne id1 b h1 with ⟨e1, b1⟩ | ⟨e1, g1⟩ <;> rcases bne id2 b h2 with ⟨e2, b2⟩ | ⟨e2, g2⟩
              · rw [e1, e2]
              · have := m.boxIn id2 _ g2; omega
              · have := m.boxIn id1 _ g1; omega
              · exact m.boxOne id1 id2 b g1 g2,
            boxSh := fun id' b hb hs => by
              rcases bne id' b hb with ⟨_, rfl⟩ | ⟨_, hb⟩
              · have := m.shIn _ hs; omega
              · exact m.boxSh id' b hb hs,
            boxMine := fun id' b hb => by
              rcases bne id' b hb with ⟨_, rfl⟩ | ⟨_, hb⟩
              · exact .inl m.size
              · exact m.boxMine id' b hb,
            kept := ma.kept, size := ma.size, os := ma.os, tape := ma.tape, output := ma.output,
            inB := fun id' b hb => by
              have := m.inB id' b hb
              have e' : id' ≠ id := fun e => by subst e; rw [hnone] at this; cases this
              simp only [upd_ne _ _ e']; exact this }
theorem heap_setCells_ne {b : Nat} : ∀ (vs : List Value) (o : Nat) (w : World) (k : Nat), k ≠ b → (w.setCells b o vs).heap[k]? = w.heap[k]?
  | [], _, _, _, _ => rfl
  | v :: vs, o, w, k, h => by
    rw [World.setCells, heap_setCells_ne vs (o + 1) _ k h]
    exact Go.RowKit.Below.heap_setCell w _ _ k h
theorem heap_setCells_size {b : Nat} : ∀ (vs : List Value) (o : Nat) (w : World), (w.setCells b o vs).heap.size = w.heap.size
  | [], _, _ => rfl
  | v :: vs, o, w => by
    rw [World.setCells, heap_setCells_size vs (o + 1)]
    simp [World.setCell]
theorem heap_setCell_at {w : World} {b o : Nat} {v : Value} {c : Array Value} {e : TypeId} {fr : Nat × Nat} (h : w.heap[b]? = some (.cells c e fr)) :
    (w.setCell ⟨b, o, none⟩ v).heap[b]? = some (.cells (c.setIfInBounds o v) e fr) := by
  simp [World.setCell, Array.getElem?_modify, h]
theorem heap_setCells_at {b : Nat} : ∀ (vs : List Value) (o : Nat) (w : World) (c : Array Value) (e : TypeId) (fr : Nat × Nat), w.heap[b]? = some (.cells c e fr) → o + vs.length ≤ c.size →
    (w.setCells b o vs).heap[b]? = some (.cells (putAt c.toList o vs).toArray e fr)
  | [], o, w, c, e, fr, h, _ => by simp [World.setCells, putAt, h]
  | v :: vs, o, w, c, e, fr, h, hl => by
    simp only [List.length_cons] at hl
    rw [World.setCells, heap_setCells_at vs (o + 1) _ _ e fr (heap_setCell_at h) (by simp; omega)]
    congr 2
    apply Array.ext'
    simp only
    apply List.ext_getElem?
    intro i
    rw [putAt_get (by simp; omega), putAt_get (by simp; omega)]
    simp only [Array.toList_setIfInBounds, List.getElem?_set, List.length_cons, Array.length_toList]
    by_cases h1 : i = o
    · subst h1
      rw [if_neg (by omega), if_pos rfl, if_pos (by omega), if_pos (by omega)]
      simp
    · by_cases h2 : o + 1 ≤ i ∧ i < o + 1 + vs.length
      · rw [if_pos h2, if_pos (by omega), show i - o = (i - (o + 1)) + 1 by omega, List.getElem?_cons_succ]
      · rw [if_neg h2, if_neg (fun e => h1 e.symm), if_neg (by omega)]
theorem setCells_os {b : Nat} : ∀ (vs : List Value) (o : Nat) (w : World), (w.setCells b o vs).os = w.os ∧ (w.setCells b o vs).tape = w.tape ∧ (w.setCells b o vs).output = w.output
  | [], _, _ => ⟨rfl, rfl, rfl⟩
  | v :: vs, o, w => by
    rw [World.setCells]
    exact setCells_os vs (o + 1) _
/-- A block of one's own is written: nothing else turns. -/
theorem MemOk.write {X : Ent} {frz : Stamp → Bool} {C : Ctx} {w : World} (m : MemOk X frz C w) {b o : Nat} {vs : List Value} (hb : X.mine b) : MemOk X frz C (w.setCells b o vs) where
  shIn k hk := by rw [heap_setCells_size]; exact m.shIn k hk
  shFrom := m.shFrom
  shOld := m.shOld
  ownIn g k base h := by rw [heap_setCells_size]; exact m.ownIn g k base h
  ownOne := m.ownOne
  ownBox := m.ownBox
  ownSh := m.ownSh
  ownFrz := m.ownFrz
  ownMine := m.ownMine
  boxIn id k h := by rw [heap_setCells_size]; exact m.boxIn id k h
  boxOne := m.boxOne
  boxSh := m.boxSh
  boxMine := m.boxMine
  kept k hk hn := by
    have : k ≠ b := fun e => by
      subst e
      rcases hb with hb | hb
      · omega
      · exact hn hb
    rw [heap_setCells_ne _ _ _ _ this]; exact m.kept k hk hn
  size := by rw [heap_setCells_size]; exact m.size
  os := (setCells_os vs o w).1.trans m.os
  tape := (setCells_os vs o w).2.1.trans m.tape
  output := (setCells_os vs o w).2.2.trans m.output
/-- A box is written. -/
theorem Conc.boxSet {X : Ent} {st : St} {C : Ctx} {a : Act} {w : World} (h : Conc X st C a w) {id b : Nat} {cs l : List AV} {us : List Value} {off : Nat}
    (hid : st.bx id = some cs) (hb : C.box id = some b) (hr : RepS w C l us) (hl : off + l.length ≤ cs.length) (hno : ∀ g base, C.own g ≠ .live b base) :
    Conc X { st with bx := upd st.bx id (some (putAt cs off l)) } C a (w.setCells b off us) := by
  have m := h.mem
  have t : C.To w (w.setCells b off us) C := by
    refine ⟨fun k hk => ⟨hk, heap_setCells_ne _ _ _ _ fun e => ?_⟩, fun _ _ hb => hb, fun g => .inr (.inr ⟨rfl, fun k base hk => heap_setCells_ne _ _ _ _ fun e => ?_⟩)⟩
    · subst e; exact m.boxSh id _ hb hk
    · subst e; exact hno g base hk
  refine { n := h.n, slots := fun k => Rep.to t _ _ (h.slots k), frg := ?_, boxes := ?_, boxSome := ?_, mem := m.write (m.boxMine id b hb), cons := h.cons, made := h.made, tg := h.tg, tgInj := h.tgInj, tgMade := h.tgMade }
  · obtain ⟨k1, k2, k3⟩ := setCells_os (b := b) us off w
    exact h.frg.go (.same fun a u hr => Rep.to t a u hr) rfl (fun _ hb => .inl hb) (fun _ hb => .inl hb) (fun k _ hk => heap_setCells_ne _ _ _ _ fun e => by
      subst e
      rcases hk with hk | hk
      · exact h.frg.out k (.inr ⟨id, hb⟩) hk
      · exact hk (m.boxMine id k hb)) (by rw [heap_setCells_size]; exact Nat.le_refl _) k1 k2 k3
  · intro id' cs' hid'
    by_cases e' : id' = id
    · subst e'
      simp at hid'; subst hid'
      obtain ⟨b', c, e, lo, hi, h1, h2, h3, h4⟩ := h.boxes id' cs hid
      obtain rfl : b = b' := by rw [hb] at h1; exact Option.some.inj h1
      have hlen := h4.length
      have hlen' := hr.length
      have hsz : off + us.length ≤ c.size := by rw [Array.length_toList] at hlen; omega
      refine ⟨b, _, e, lo, hi, hb, heap_setCells_at us off w c e (lo, hi) h2 hsz, fun o ho => h3 o ?_, ?_⟩
      · simp only [List.size_toArray] at ho
        rw [putAt_length (by rw [Array.length_toList]; exact hsz), Array.length_toList] at ho
        exact ho
      · exact (RepS.to t cs _ h4).putAt (RepS.to t l _ hr) off
    · change upd st.bx id (some (putAt cs off l)) id' = some cs' at hid'
      rw [upd_ne _ _ e'] at hid'
      obtain ⟨b', c, e2, lo, hi, h1, h2, h3, h4⟩ := h.boxes id' cs' hid'
      have hne : b' ≠ b := fun x => e' (m.boxOne id' id b (x ▸ h1) hb)
      exact ⟨b', c, e2, lo, hi, h1, (heap_setCells_ne _ _ _ _ hne).trans h2, h3, RepS.to t cs' _ h4⟩
  · intro id' b' hb'
    by_cases e' : id' = id
    · subst e'; simp
    · simp only [upd_ne _ _ e']; exact h.boxSome id' b' hb'
theorem Conc.boxNoOwn {X : Ent} {st : St} {C : Ctx} {a : Act} {w : World} (h : Conc X st C a w) {id b : Nat} (hb : C.box id = some b) : ∀ g base, C.own g ≠ .live b base := by
  intro g base hg
  by_cases hf : st.frz g = true
  · exact h.mem.boxSh id b hb (h.mem.ownFrz g b base hg hf)
  · exact h.mem.ownBox g b base id hg (by simpa using hf) hb
/-- One operation leads from a state to another one. -/
def Fr (ro : Option Nat) : Fence := { fn := fun _ => True, depth := none, alive := false, round := ro }
theorem callsIn_fr {ro : Option Nat} {n : Nat} {f : FuncId} {args : Array Value} {w : World} {R : Ending → World → Prop} (h : Calls P f args w R) : CallsIn (Fr ro) n P f args w R :=
  (callsIn_wide (n := n)).2 h
theorem semAt_run {ro : Option Nat} {ρ : Operand → Value} {o : Oper} {w w' : World} {x : Next} (h : (execOp ρ o).run P w = .ok x w') (hx : ∀ d, x ≠ .defer d) : (o.semAt ro ρ).run P w = .ok x w' := by
  rw [Oper.semAt_eq ro ρ o]
  · exact h
  · intro c hc
    unfold execOp at h
    simp only [hc] at h
    simp only [Sem.run_bind, Sem.run_pure] at h
    cases hr : (resolve ρ c o.type).run P w with
    | ok d w2 => rw [hr] at h; simp only [Result.andThen_ok] at h; cases h; exact hx _ rfl
    | halt e w2 => rw [hr] at h; cases h
/-- What an operation is about to call is no matter here. -/
def OpStep (P : Program) (X : Ent) (st : St) (o : Oper) (st' : St) : Prop :=
  ∀ (C : Ctx) (a : Act) (w : World), Conc X st C a w → ∀ (K : Act → World → Prop) (Q : Exit → Act → World → Prop), (∀ C' a' w', Conc X st' C' a' w' → K a' w') → o.wpIn (Fr X.round) 0 P a w K Q
theorem OpStep.value {X : Ent} {st st' : St} {o : Oper} (h : ∀ (C : Ctx) (a : Act) (w : World), Conc X st C a w →
    ∃ u w' C', (execOp a.eval o).run P w = .ok (.value u) w' ∧ Conc X st' C' (a.put o.dst u) w') : OpStep P X st o st' := by
  intro C a w hc K Q hK
  obtain ⟨u, w', C', h1, h2⟩ := h C a w hc
  refine ⟨fun _ _ => trivial, ?_⟩
  rw [semAt_run h1 (by simp), Oper.uponIn_value]
  exact hK _ _ _ h2
theorem OpStep.skip {X : Ent} {st st' : St} {o : Oper} (h : ∀ (C : Ctx) (a : Act) (w : World), Conc X st C a w →
    ∃ w' C', (execOp a.eval o).run P w = .ok .skip w' ∧ Conc X st' C' (a.put o.dst undef) w') : OpStep P X st o st' := by
  intro C a w hc K Q hK
  obtain ⟨w', C', h1, h2⟩ := h C a w hc
  refine ⟨fun _ _ => trivial, ?_⟩
  rw [semAt_run h1 (by simp), Oper.uponIn_skip]
  exact hK _ _ _ h2
def St.fits (n : Nat) (d : Option Nat) : Bool :=
  match d with
  | some d => decide (d < n)
  | none => true
theorem Conc.putO {X : Ent} {st : St} {C : Ctx} {a : Act} {w : World} (h : Conc X st C a w) {d : Option Nat} (hd : St.fits X.n d = true) {v : AV} {u : Value}
    (hv : Rep w C v u) : Conc X (st.putO d v) C (a.put d u) w := by
  cases d with
  | none => exact h
  | some d => exact h.put (by simpa [St.fits] using hd) hv
theorem step_pv {X : Ent} {st : St} {o : Oper} {v : AV} (h : pv P st o = some v) (hd : St.fits X.n o.dst = true) : OpStep P X st o (st.putO o.dst v) :=
  OpStep.value fun C a w hc => by
    obtain ⟨u, hu, hr⟩ := pv_ok hc h
    exact ⟨u, w, C, hu, hc.putO hd hr⟩
/-- A variable, or a copy of a value, in memory. -/
def newBox (P : Program) (st : St) (o : Oper) : Option (List AV) :=
  match o.op with
  | .alloc T => zeroAV P T
  | .box T x => need (st.solid (st.ev P T x) = true) (some (st.ev P T x).cells)
  | _ => none
theorem step_box {X : Ent} {st : St} {o : Oper} {cs : List AV} {d : Nat} (h : newBox P st o = some cs) (hd : o.dst = some d) (hn : d < X.n) (hfree : st.bx d = none) :
    OpStep P X st o ({ st with bx := upd st.bx d (some cs) }.put d (.ptr d 0)) :=
  OpStep.value fun C a w hc => by
    unfold newBox at h
    split at h
    · rename_i T ho
      obtain ⟨z, hz1, hz2, _⟩ := zeroAV_ok h
      have hb := hc.boxNew hfree T (hz2 w C)
      refine ⟨.pointer (some ⟨w.heap.size, 0, none⟩), w.alloc (.cells z.cells T), { C with box := upd C.box d (some w.heap.size) }, ?_, ?_⟩
      · simp [execOp, ho, Instr.alloc, hz1, newVar, newRow]
      · rw [hd]
        exact Conc.put (by simpa using hb) hn ⟨w.heap.size, by simp, rfl⟩
    · rename_i T x ho
      obtain ⟨hs, h'⟩ := need_some h
      cases h'
      have hr := rep_solid hc.cons hs (hc.ev P T x)
      have hb := hc.boxNew hfree T hr
      refine ⟨.pointer (some ⟨w.heap.size, 0, none⟩), w.alloc (.cells (a.eval x).cells T), { C with box := upd C.box d (some w.heap.size) }, ?_, ?_⟩
      · simp [execOp, ho, Instr.box, newVar, newRow]
      · rw [hd]
        exact Conc.put (by simpa using hb) hn ⟨w.heap.size, by simp, rfl⟩
    · cases h
/-- A store into a box. -/
def storeBox (P : Program) (st : St) (o : Oper) : Option (Nat × List AV) :=
  match o.op with
  | .store T a x =>
    match st.ev P 0 a with
    | .ptr id off => (st.bx id).bind fun cs =>
        need ((P.info? T).isSome = true ∧ st.solid (st.ev P T x) = true ∧ (st.ev P T x).cells.length = P.cellsOf T ∧ off + P.cellsOf T ≤ cs.length) (some (id, putAt cs off (st.ev P T x).cells))
    | _ => none
  | _ => none
theorem run_storeAt {T : TypeId} (hI : (P.info? T).isSome = true) {w : World} {b off : Nat} {v : Value} {c : Array Value} {e : TypeId} {lo hi : Nat} (hb : w.heap[b]? = some (.cells c e (lo, hi)))
    (hfr : ∀ o, o < c.size → ¬ (lo ≤ o ∧ o < hi)) (hs : v.cells.size = P.cellsOf T) (hl : off + v.cells.size ≤ c.size) (h1 : ∀ u ∈ v.cells.toList, u.oneCell' = true) :
    (Instr.storeAt T (.pointer (some ⟨b, off, none⟩)) v).run P w = .ok () (w.setCells b off v.cells.toList) := by
  have hst := run_storeCells_cells (P := P) b off v.cells.toList 0 w
    (fun j hj => by simp only [Array.length_toList] at hj; simp only [World.cell?, hb]; simp; omega)
    (fun j hj => by simp only [Array.length_toList] at hj; have := hfr (off + 0 + j) (by omega); simp only [World.frozen?, hb]; simp; omega) h1
  simp only [Nat.add_zero] at hst
  simp [Instr.storeAt, Instr.sureAddr, storeVar, run_sizeOf hI, hs, hst]
theorem RepS.one {w : World} {C : Ctx} : ∀ {l : List AV} {vs : List Value}, RepS w C l vs → ∀ u ∈ vs, u.oneCell' = true
  | [], _, h, u, hu => by simp only [RepS] at h; simp [h] at hu
  | e :: l, _, h, u, hu => by
    obtain ⟨v, r, rfl, h1, _, h2⟩ := h
    rcases List.mem_cons.1 hu with rfl | hu
    · exact h1
    · exact RepS.one h2 u hu
theorem step_store {X : Ent} {st : St} {o : Oper} {id : Nat} {cs : List AV} (h : storeBox P st o = some (id, cs)) (hd : o.dst = none) : OpStep P X st o { st with bx := upd st.bx id (some cs) } :=
  OpStep.skip fun C a w hc => by
    unfold storeBox at h
    split at h
    · rename_i T ad x ho
      split at h
      · rename_i id' off hp
        obtain ⟨cs0, hcs, h'⟩ := Option.bind_eq_some_iff.1 h
        obtain ⟨⟨hI, hs, hl, hle⟩, h''⟩ := need_some h'
        cases h''
        have hptr := hc.ev P 0 ad
        rw [hp] at hptr
        obtain ⟨b, hb, hptr⟩ := hptr
        have hr := rep_solid hc.cons hs (hc.ev P T x)
        obtain ⟨b', c, e, lo, hi, h1, h2, h3, h4⟩ := hc.boxes _ _ hcs
        obtain rfl : b = b' := by rw [hb] at h1; exact Option.some.inj h1
        have hlen := hr.length
        have hlen0 := h4.length
        rw [Array.length_toList] at hlen hlen0
        refine ⟨w.setCells b off (a.eval x).cells.toList, C, ?_, ?_⟩
        · have := run_storeAt (P := P) hI h2 h3 (v := a.eval x) (off := off) (by omega) (by omega) (fun u hu => hr.one u hu)
          simp [execOp, ho, hptr, this]
        · rw [hd]
          exact hc.boxSet hcs hb hr (by omega) (hc.boxNoOwn hb)
      · cases h
    · cases h
end Go.VS
namespace Go.VS
set_option linter.unusedVariables false
set_option linter.unusedSimpArgs false
set_option linter.unusedSectionVars false
open Go
variable {P : Program}
mutual
def stampsOf : AV → List Stamp
  | .sl (some (g, _)) _ _ _ => [g]
  | .agg cs => stampsL cs
  | .fn _ cs => stampsL cs
  | _ => []
def stampsL : List AV → List Stamp
  | [] => []
  | c :: cs => stampsOf c ++ stampsL cs
end
mutual
def froz : AV → AV
  | .sl _ nb sz l => .sl none nb sz l
  | .agg cs => .agg (frozL cs)
  | .fn f cs => .fn f (frozL cs)
  | v => v
def frozL : List AV → List AV
  | [] => []
  | c :: cs => froz c :: frozL cs
end
mutual
def frozable : AV → Bool
  | .ptr .. => false
  | .bsl .. => false
  | .eptr .. => false
  | .tup _ => false
  | .ghost .. => false
  | .hid _ => false
  | .itp .. => false
  | .agg cs => frozableL cs
  | .fn _ cs => frozableL cs
  | _ => true
def frozableL : List AV → Bool
  | [] => true
  | c :: cs => frozable c && frozableL cs
end
mutual
theorem froz_ok {w : World} {C : Ctx} : ∀ (a : AV) (v : Value), frozable a = true → (∀ g ∈ stampsOf a, C.own g ≠ .dead ∧ ∀ b base, C.own g = .live b base → C.Sh b) → Rep w C a v → RepF w C.Sh (froz a) v
  | .undef, _, _, _, _ => trivial
  | .ghost .., _, hf, _, _ => by simp [frozable] at hf
  | .hid _, _, hf, _, _ => by simp [frozable] at hf
  | .int .., _, _, _, h => h
  | .bool .., _, _, _, h => h
  | .str .., _, _, _, h => h
  | .sl none nb sz l, v, _, _, h => h
  | .sl (some (g, eo)) nb sz l, v, _, hg, h => by
    obtain ⟨hd, hs⟩ := hg g (by simp [stampsOf])
    rcases h with h | h | ⟨h0, b, base, off, cap, vs, h1, _, h2, h3, h4, h5, _⟩
    · exact absurd h hd
    · exact .inl h
    · exact .inr ⟨h0, b, off, cap, vs, none, h2, h3, .inr ⟨rfl, hs b base h1, h4⟩, h5⟩
  | .ptr .., _, hf, _, _ => by simp [frozable] at hf
  | .nilp, _, _, _, h => h
  | .eptr .., _, hf, _, _ => by simp [frozable] at hf
  | .agg cs, v, hf, hg, h => by
    obtain ⟨vs, h1, h2⟩ := h
    exact ⟨vs, h1, frozL_ok cs vs hf hg h2⟩
  | .tup cs, _, hf, _, _ => by simp [frozable] at hf
  | .fn f cs, v, hf, hg, h => by
    obtain ⟨vs, h1, h2⟩ := h
    exact ⟨vs, h1, frozL_ok cs vs hf hg h2⟩
  | .nilf, _, _, _, h => h
  | .yl _, _, _, _, h => h
  | .itp .., _, hf, _, _ => by simp [frozable] at hf
  | .bsl .., _, hf, _, _ => by simp [frozable] at hf
theorem frozL_ok {w : World} {C : Ctx} : ∀ (l : List AV) (vs : List Value), frozableL l = true → (∀ g ∈ stampsL l, C.own g ≠ .dead ∧ ∀ b base, C.own g = .live b base → C.Sh b) → RepS w C l vs → RepL w C.Sh (frozL l) vs
  | [], _, _, _, h => h
  | c :: cs, _, hf, hg, h => by
    obtain ⟨v, r, h1, h0, h2, h3⟩ := h
    simp only [frozableL, Bool.and_eq_true] at hf
    exact ⟨v, r, h1, h0, froz_ok c v hf.1 (fun g hg' => hg g (by simp [stampsL, hg'])) h2, frozL_ok cs r hf.2 (fun g hg' => hg g (by simp [stampsL, hg'])) h3⟩
end
def St.freezeL (st : St) : List Stamp → St
  | [] => st
  | g :: gs => ({ st with frz := updS st.frz g true } : St).freezeL gs
theorem freezeL_same : ∀ (gs : List Stamp) (st : St), (st.freezeL gs).s = st.s ∧ (st.freezeL gs).bx = st.bx ∧ (st.freezeL gs).cons = st.cons ∧ (st.freezeL gs).made = st.made ∧ (st.freezeL gs).res = st.res
  | [], _ => ⟨rfl, rfl, rfl, rfl, rfl⟩
  | g :: gs, st => freezeL_same gs _
theorem Conc.freezeL {X : Ent} {a : Act} {w : World} : ∀ (gs : List Stamp) {st : St} {C : Ctx}, Conc X st C a w → (∀ g ∈ gs, st.cons g = false) →
    ∃ C', Conc X (st.freezeL gs) C' a w ∧ C.To w w C' ∧ C'.own = C.own ∧ C'.box = C.box ∧ (∀ b, C.Sh b → C'.Sh b) ∧ ∀ g ∈ gs, ∀ b base, C.own g = .live b base → C'.Sh b
  | [], st, C, h, _ => ⟨C, h, ⟨fun _ hb => ⟨hb, rfl⟩, fun _ _ hb => hb, fun _ => .inr (.inr ⟨rfl, fun _ _ _ => rfl⟩)⟩, rfl, rfl, fun _ h => h, by simp⟩
  | g :: gs, st, C, h, hg => by
    obtain ⟨C1, h1, t1, o1, b1, s1⟩ := h.freeze g (hg g (by simp))
    obtain ⟨C2, h2, t2, o2, b2, m2, s2⟩ := Conc.freezeL gs h1 (fun x hx => hg x (by simp [hx]))
    refine ⟨C2, h2, ⟨fun b hb => ⟨(t2.sh b (t1.sh b hb).1).1, rfl⟩, fun id b hb => t2.box id b (t1.box id b hb), fun x => .inr (.inr ⟨by rw [o2, o1], fun _ _ _ => rfl⟩)⟩,
      o2.trans o1, b2.trans b1, fun b hb => m2 b (t1.sh b hb).1, ?_⟩
    intro x hx b base hb
    rcases List.mem_cons.1 hx with rfl | hx
    · exact m2 b (s1 b base hb)
    · exact s2 x hx b base (by rw [o1]; exact hb)
def St.tname (st : St) (g : Stamp) : Stamp := if g.1 = 1 then (st.res g.2).getD (0, g.2) else g
/-- A block that is new gets a name. -/
def St.mkNew (st : St) (d : Nat) : St :=
  { st with cons := updS st.cons (0, d) true, made := upd st.made d true, res := upd st.res d (some (0, d)) }
def St.canNew (st : St) (d : Nat) : Bool := !st.made d && !st.frz (1, d) && !st.cons (0, d) && !st.cons (1, d)
theorem Conc.newBlock {X : Ent} {st : St} {C : Ctx} {a : Act} {w : World} (h : Conc X st C a w) {d : Nat} (hc : st.canNew d = true) (c : Array Value) (e : TypeId) :
    ∃ C', Conc X (st.mkNew d) C' a (w.alloc (.cells c e)) ∧ C.To w (w.alloc (.cells c e)) C' ∧ C'.own (1, d) = .live w.heap.size 0 ∧ C'.Sh = C.Sh := by
  simp only [St.canNew, Bool.and_eq_true, Bool.not_eq_true'] at hc
  obtain ⟨⟨⟨c1, c2⟩, c3⟩, c4⟩ := hc
  have h1 := h.kill (0, d) (by simp)
  have h2 := h1.alloc (.cells c e)
  have m := h.mem
  have notgt : ∀ k, st.cons (1, k) = false → st.res k = some (0, d) → False := by
    intro k _ hk
    have := (h.tg k _ hk).1
    rw [c3] at this; cases this
  have h3 := h2.ownNew (d := d) (b := w.heap.size) (base := 0) (t0 := (0, d)) (by simp) (.inl m.size) c1 c2 (fun hs => by have := m.shIn _ hs; omega)
    (fun id hb => by have := m.boxIn id _ hb; omega)
    (fun g bs hg => by
      simp only [updO] at hg
      split at hg
      · cases hg
      · have := m.ownIn g _ _ hg; omega)
    (fun hf => by have := h.frg.fin _ hf; omega) (by simp [updS]) (by simp)
    (fun k hk hr => by
      simp only [updS] at hk
      split at hk
      · cases hk
      · exact notgt k hk hr)
  refine ⟨_, h3, ⟨fun b hb => ⟨hb, heap_alloc_ne (m.shIn b hb)⟩, fun _ _ hb => hb, fun g => ?_⟩, by simp [updO], rfl⟩
  by_cases e1 : g = (1, d)
  · subst e1
    left
    cases e : C.own (1, d) with
    | none => rfl
    | dead => have := h.made d (by rw [e]; simp); rw [c1] at this; cases this
    | live b base => have := h.made d (by rw [e]; simp); rw [c1] at this; cases this
  · by_cases e2 : g = (0, d)
    · subst e2; right; left; simp [updO]
    · right; right
      exact ⟨by simp [updO, e1, e2], fun b base hb => heap_alloc_ne (m.ownIn g b base hb)⟩
theorem cellsAt_new (w : World) (c : List Value) (e : TypeId) : cellsAt (w.alloc (.cells c.toArray e)) w.heap.size 0 c := by
  intro j v hj
  simp only [World.cell?, heap_alloc_new, Nat.zero_add]
  simpa using hj
theorem cellsAt_new_left (w : World) (c r : List Value) (e : TypeId) : cellsAt (w.alloc (.cells (c ++ r).toArray e)) w.heap.size 0 c := by
  intro j v hj
  have := cellsAt_new w (c ++ r) e j v (by rw [List.getElem?_append_left (List.getElem?_eq_some_iff.1 hj).1]; exact hj)
  exact this
theorem rep_new {w : World} {C C' : Ctx} {d : Nat} {sz cap : Nat} {l : List AV} {c r : List Value} {e : TypeId} (t : C.To w (w.alloc (.cells (c ++ r).toArray e)) C') (ho : C'.own (1, d) = .live w.heap.size 0)
    (hr : RepRow w C.Sh sz l c) (hcap : l.length ≤ cap) (hlen : c.length + r.length = cap * sz) :
    Rep (w.alloc (.cells (c ++ r).toArray e)) C' (.sl (some ((1, d), 0)) false sz l) (.slice (some ⟨w.heap.size, 0, none⟩) l.length cap) := by
  refine .inr (.inr ⟨rfl, w.heap.size, 0, 0, cap, c, ho, .inl (by simp), rfl, hcap, cellsAt_new_left w c r e, RepRow.keep t.sh sz l c hr, ?_⟩)
  refine ⟨(c ++ r).toArray, e, 0, 0, heap_alloc_new _ _, ?_, fun o _ => by omega, Nat.le_refl _⟩
  simp only [Nat.zero_add, List.size_toArray, List.length_append]
  omega
/-- The value that cells make. -/
def mkElem (P : Program) (E : TypeId) (cs : List AV) : Option AV :=
  if P.isAggT E = true then some (.agg cs) else
    match cs with
    | [c] => some c
    | _ => none
end Go.VS
namespace Go.VS
set_option linter.unusedVariables false
set_option linter.unusedSimpArgs false
set_option linter.unusedSectionVars false
open Go
variable {P : Program}
/-- A target for a name, in the middle of a region. -/
theorem Conc.mark {X : Ent} {st : St} {C : Ctx} {a : Act} {w : World} (h : Conc X st C a w) {d : Nat} {t0 : Stamp} (hfree : st.made d = false)
    (ht0 : st.cons t0 = true) (ht1 : t0.1 ≠ 1) (htj : ∀ k, st.cons (1, k) = false → st.res k = some t0 → False) :
    Conc X { st with made := upd st.made d true, res := upd st.res d (some t0) } C a w := by
  have hres : ∀ k, k ≠ d → upd st.res d (some t0) k = st.res k := fun k hk => upd_ne _ _ hk
  refine { n := h.n, slots := h.slots, frg := h.frg, boxes := h.boxes, boxSome := h.boxSome, mem := h.mem, cons := h.cons, made := ?_, tg := ?_, tgInj := ?_, tgMade := ?_ }
  · intro k hk
    by_cases e : k = d
    · subst e; simp
    · have := h.made k hk; simp only [upd_ne _ _ e]; exact this
  · intro k x hx
    by_cases e : k = d
    · subst e; simp at hx; subst hx; exact ⟨ht0, ht1⟩
    · simp only [hres k e] at hx; exact h.tg k x hx
  · intro k k' x c c' hx hx'
    by_cases e : k = d <;> by_cases e' : k' = d
    · rw [e, e']
    · subst e; simp at hx; subst hx; simp only [hres k' e'] at hx'; exact (htj k' c' hx').elim
    · subst e'; simp at hx'; subst hx'; simp only [hres k e] at hx; exact (htj k c hx).elim
    · simp only [hres k e] at hx; simp only [hres k' e'] at hx'; exact h.tgInj k k' x c c' hx hx'
  · intro k hk
    by_cases e : k = d
    · subst e; simp
    · simp only [hres k e]; simp only [upd_ne _ _ e] at hk; exact h.tgMade k hk
/-- The elements that are appended. -/
def srcOf (P : Program) (st : St) (tx : TypeId) (sz : Nat) (x : AV) : Option (List AV) :=
  match x with
  | .sl o nb sz' l =>
    match P.underlying tx with
    | some (.slice _) => need (st.alive o = true ∧ (nb = true ∨ sz' = sz)) (some l)
    | _ => none
  | .str s =>
    match P.underlying tx with
    | some .string => need (sz = 1) (some (s.map u8))
    | _ => none
  | .bsl id off len _ =>
    match P.underlying tx with
    | some (.slice _) => (st.bx id).bind fun cs => need (sz = 1 ∧ off + len ≤ cs.length ∧ frozableL ((cs.drop off).take len) = true ∧ stampsL ((cs.drop off).take len) = [] ∧
        (((cs.drop off).take len).all fun c => c.cells.length = 1 && st.one c) = true) (some (frozL ((cs.drop off).take len)))
    | _ => none
  | _ => none
theorem RepRow.of_one {w : World} {Sh : Nat → Prop} : ∀ {l : List AV} {vs : List Value}, RepL w Sh l vs → RepRow w Sh 1 l vs
  | [], _, h => h
  | c :: cs, _, h => by
    obtain ⟨v, r, rfl, h1, h2, h3⟩ := h
    have hv : v.cells = #[v] := by cases v <;> first | rfl | (simp [Value.oneCell'] at h1)
    exact ⟨v, r, by simp [hv], by simp [hv], by simp [hv, h1], h2, RepRow.of_one h3⟩
theorem row_bytes {w : World} {Sh : Nat → Prop} (s : List UInt8) : RepRow w Sh 1 (s.map u8) (byteCells ⟨s.toArray⟩) := by
  apply RepRow.of_one
  induction s with
  | nil => simp [byteCells, RepL]
  | cons c s ih => exact ⟨.int .u8 c.toNat, byteCells ⟨s.toArray⟩, by simp [byteCells], rfl, rfl, ih⟩
theorem srcOf_ok {X : Ent} {st : St} {C : Ctx} {a : Act} {w : World} (hc : Conc X st C a w) {tx : TypeId} {sz : Nat} {x : AV} {l : List AV} (h : srcOf P st tx sz x = some l) {u : Value} (hr : Rep w C x u) :
    ∃ news, Src P sz tx u l.length news w ∧ RepRow w C.Sh sz l news := by
  unfold srcOf at h
  split at h
  · rename_i o nb sz' l'
    split at h
    · rename_i E hT
      obtain ⟨⟨ha, hs⟩, h'⟩ := need_some h
      cases h'
      rcases rep_sl_read hc.cons hr ha with ⟨_, rfl, rfl⟩ | ⟨hn, b, off, cap, vs, sp, rfl, hlc, hsp, h4, h5⟩
      · exact ⟨[], Src.ofNil w hT 0, rfl⟩
      · have hsz : sz' = sz := hs.resolve_left (by simp [hn])
        subst hsz
        exact ⟨vs, Src.ofSlice w hT _ _ _ _ h5.length (fun j v hj => by
          rcases hsp with hsp | rfl
          · rw [hsp] at hj; simp at hj
          · rw [Addr.add_mid]; exact h4 j v hj) h5.one, h5⟩
    · cases h
  · rename_i s
    split at h
    · rename_i hT
      obtain ⟨rfl, h'⟩ := need_some h
      cases h'
      simp only [Rep] at hr; subst hr
      have := Src.ofString w (P := P) hT ⟨s.toArray⟩
      refine ⟨_, by simpa [ByteArray.size] using this, row_bytes s⟩
    · cases h
  · rename_i id off len cap
    split at h
    · rename_i E hT
      obtain ⟨cs, hcs, h'⟩ := Option.bind_eq_some_iff.1 h
      obtain ⟨⟨rfl, hl, hf, hst, hone⟩, h''⟩ := need_some h'
      cases h''
      obtain ⟨b, hb, rfl, _⟩ := hr
      obtain ⟨b', vs, hb', h1, h2⟩ := RepS_of_box (hc.boxes _ _ hcs)
      obtain rfl : b = b' := by rw [hb] at hb'; exact Option.some.inj hb'
      have hcut := (h2.drop off).take len
      have hlen := h2.length
      have hF := frozL_ok (w := w) (C := C) _ _ hf (by rw [hst]; simp) hcut
      have hrow := RepRow.of_one hF
      have e1 : (frozL ((cs.drop off).take len)).length = len := by
        have := hF.length; simp at this; omega
      refine ⟨_, ?_, hrow⟩
      rw [e1]
      refine Src.ofSlice w hT _ _ _ _ (by simp; omega) (fun j v hj => ?_) hrow.one
      rw [Addr.add_mid]
      have := ((h1.drop off).take len) j v hj
      simpa using this
    · cases h
  · cases h
end Go.VS
namespace Go.VS
set_option linter.unusedVariables false
set_option linter.unusedSimpArgs false
set_option linter.unusedSectionVars false
open Go
variable {P : Program}
def _root_.Go.Program.rowOk (P : Program) (E : TypeId) : Bool :=
  match P.info? E with
  | some i =>
    match i.zero with
    | some z => z.cells.size == i.size
    | none => false
  | none => false
theorem rowOk_of {E : TypeId} (h : P.rowOk E = true) : ∃ i z, P.info? E = some i ∧ i.zero = some z ∧ z.cells.size = i.size ∧ i.size = P.cellsOf E ∧ i.bytes = P.bytesOf E := by
  unfold Program.rowOk at h
  split at h
  · rename_i i hi
    split at h
    · rename_i z hz
      exact ⟨i, z, hi, hz, by simpa using h, by simp [Program.cellsOf, hi], by simp [Program.bytesOf, hi]⟩
    · cases h
  · cases h
theorem Conc.newBlockAt {X : Ent} {st : St} {C : Ctx} {a : Act} {w : World} (h : Conc X st C a w) {d : Nat} {t0 : Stamp} (hfree : st.made d = false) (hfrz : st.frz (1, d) = false)
    (ht0 : st.cons t0 = true) (ht1 : t0.1 ≠ 1) (htj : ∀ k, st.cons (1, k) = false → st.res k = some t0 → False) (c : Array Value) (e : TypeId) :
    ∃ C', Conc X { st with made := upd st.made d true, res := upd st.res d (some t0) } C' a (w.alloc (.cells c e)) ∧ C.To w (w.alloc (.cells c e)) C' ∧ C'.own (1, d) = .live w.heap.size 0 ∧ C'.Sh = C.Sh := by
  have m := h.mem
  have h2 := h.alloc (.cells c e)
  have h3 := h2.ownNew (d := d) (b := w.heap.size) (base := 0) (t0 := t0) (by simp) (.inl m.size) hfree hfrz (fun hs => by have := m.shIn _ hs; omega)
    (fun id hb => by have := m.boxIn id _ hb; omega) (fun g bs hg => by have := m.ownIn g _ _ hg; omega) (fun hf => by have := h.frg.fin _ hf; omega) ht0 ht1 htj
  refine ⟨_, h3, ⟨fun b hb => ⟨hb, heap_alloc_ne (m.shIn b hb)⟩, fun _ _ hb => hb, fun g => ?_⟩, by simp [updO], rfl⟩
  by_cases e1 : g = (1, d)
  · subst e1
    left
    cases e : C.own (1, d) with
    | none => rfl
    | dead => have := h.made d (by rw [e]; simp); rw [hfree] at this; cases this
    | live b base => have := h.made d (by rw [e]; simp); rw [hfree] at this; cases this
  · right; right
    exact ⟨by simp [updO, e1], fun b base hb => heap_alloc_ne (m.ownIn g b base hb)⟩
/-- A block that nobody knows is written. -/
theorem Conc.writeFree {X : Ent} {st : St} {C : Ctx} {a : Act} {w : World} (h : Conc X st C a w) {b o : Nat} {vs : List Value} (hm : X.mine b) (hs : ¬ C.Sh b) (hb : ∀ id, C.box id ≠ some b)
    (ho : ∀ g bs, C.own g ≠ .live b bs) (hfo : ¬ C.fo b) : Conc X st C a (w.setCells b o vs) := by
  have t : C.To w (w.setCells b o vs) C := ⟨fun k hk => ⟨hk, heap_setCells_ne _ _ _ _ fun e => hs (e ▸ hk)⟩, fun _ _ hb => hb, fun g => .inr (.inr ⟨rfl, fun k base hk => heap_setCells_ne _ _ _ _ fun e => ho g base (e ▸ hk)⟩)⟩
  obtain ⟨k1, k2, k3⟩ := setCells_os (b := b) vs o w
  refine h.to ⟨fun k hk => ⟨hk, heap_setCells_ne _ _ _ _ fun e => hs (e ▸ hk)⟩, fun _ _ hb => hb, fun g => .inr (.inr ⟨rfl, fun k base hk => heap_setCells_ne _ _ _ _ fun e => ho g base (e ▸ hk)⟩)⟩
    (fun _ _ hb => hb) (fun id k hk => heap_setCells_ne _ _ _ _ fun e => hb id (e ▸ hk)) (h.mem.write hm) h.cons h.made
    (h.frg.go (.same fun a u hr => Rep.to t a u hr) rfl (fun _ hb => .inl hb) (fun _ hb => .inl hb) (fun k _ hk => heap_setCells_ne _ _ _ _ fun e => by
      subst e
      rcases hk with hk | hk
      · exact hfo hk
      · exact hk hm) (by rw [heap_setCells_size]; exact Nat.le_refl _) k1 k2 k3)
theorem cellsAt_setCells {w : World} {b off : Nat} {c : Array Value} {e : TypeId} {fr : Nat × Nat} {vs news : List Value} (hb : w.heap[b]? = some (.cells c e fr)) (hl : off + vs.length + news.length ≤ c.size)
    (h : cellsAt w b off vs) : cellsAt (w.setCells b (off + vs.length) news) b off (vs ++ news) := by
  intro j v hj
  by_cases hlt : j < vs.length
  · rw [List.getElem?_append_left hlt] at hj
    rw [World.cell?_setCells_out b news _ w _ (fun _ _ => by left; simp; omega)]
    exact h j v hj
  · rw [List.getElem?_append_right (by omega)] at hj
    have hj2 := (List.getElem?_eq_some_iff.1 hj).1
    have := World.cell?_setCells_in b news (off + vs.length) w (fun i hi => by simp only [World.cell?, hb]; simp; omega) (j - vs.length) hj2
    rw [show off + vs.length + (j - vs.length) = off + j by omega] at this
    rw [this, ← hj, List.getElem?_eq_getElem hj2]
def St.eat (st : St) (g : Stamp) (d : Nat) : St :=
  { st with cons := updS st.cons g true, made := upd st.made d true, res := upd st.res d (some (st.tname g)) }
/-- So many zero elements, as append takes them of a make. -/
structure SrcZ (P : Program) (size : Nat) (tx E : TypeId) (x : Value) (n : Nat) (news : List Value) : Prop where
  kind : ∃ k, P.underlying tx = some (.int k)
  val : ∃ k, x = .int k n
  small : n ≤ 9223372036854775807
  zero : ∃ i z, P.info? E = some i ∧ i.zero = some z ∧ (n : Int) * i.bytes ≤ 281474976710656 ∧ news = (Builtin.zeroCells z.cells n).toList ∧ (n * size = 0 → news = [])
  newsLen : news.length = n * size
  one : ∀ u ∈ news, u.oneCell' = true
def SrcG (P : Program) (size : Nat) (tx E : TypeId) (x : Value) (n : Nat) (news : List Value) (w : World) : Prop := Src P size tx x n news w ∨ SrcZ P size tx E x n news
theorem SrcG.newsLen {size : Nat} {tx E : TypeId} {x : Value} {n : Nat} {news : List Value} {w : World} (h : SrcG P size tx E x n news w) : news.length = n * size := h.elim (·.newsLen) (·.newsLen)
theorem SrcG.one {size : Nat} {tx E : TypeId} {x : Value} {n : Nat} {news : List Value} {w : World} (h : SrcG P size tx E x n news w) : ∀ u ∈ news, u.oneCell' = true := h.elim (·.one) (·.one)
theorem run_append_nothing_g (w : World) (t tx ty e : TypeId) (i : TypeInfo) (ht : P.underlying t = some (.slice e)) (hi : P.info? e = some i) (base : Option Addr) (sLen sCap : Nat) (hle : sLen ≤ sCap) (x : Value) (hs : SrcG P i.size tx e x 0 [] w) :
    (Builtin.append_ #[t, tx] ty #[.slice base sLen sCap, x]).run P w = .ok (.slice base sLen sCap) w := by
  rcases hs with hs | hs
  · exact run_append_nothing w t tx ty e i ht hi base sLen sCap hle x hs
  · obtain ⟨k, hk⟩ := hs.kind
    obtain ⟨k', rfl⟩ := hs.val
    have e0 : IntKind.wrap .i64 0 = 0 := by decide
    cases base <;> simp [Builtin.append_, run_underlying ht, run_underlying hk, sizeOf, typeInfo, hi, hle, asInt, asIntOf, e0, storeCells]
theorem run_append_room_g (w : World) (t tx ty e : TypeId) (i : TypeInfo) (ht : P.underlying t = some (.slice e)) (hi : P.info? e = some i) (b off sLen sCap : Nat) (x : Value) (n : Nat) (news : List Value) (hs : SrcG P i.size tx e x n news w)
    (hroom : sLen + n ≤ sCap) (hc : ∀ j, j < news.length → (w.cell? ⟨b, off + sLen * i.size + j, none⟩).isSome = true) (hf : ∀ j, j < news.length → w.frozen? ⟨b, off + sLen * i.size + j, none⟩ = false) :
    (Builtin.append_ #[t, tx] ty #[.slice (some ⟨b, off, none⟩) sLen sCap, x]).run P w = .ok (.slice (some ⟨b, off, none⟩) (sLen + n) sCap) (w.setCells b (off + sLen * i.size) news) := by
  rcases hs with hs | hs
  · exact run_append_room_src w t tx ty e i ht hi b off sLen sCap x n news hs hroom hc hf
  · have hst := run_storeCells_cells (P := P) b (off + sLen * i.size) news 0 w (by simpa using hc) (by simpa using hf) hs.one
    simp only [Nat.add_zero] at hst
    obtain ⟨k, hk⟩ := hs.kind
    obtain ⟨k', rfl⟩ := hs.val
    obtain ⟨i', z, hi', hz, hby, hnews, hnil⟩ := hs.zero
    rw [hi] at hi'; cases hi'
    have e0 : IntKind.wrap .i64 (n : Int) = n := Go.IntWalk.i64_in _ (by have := hs.small; omega)
    have h1 : ¬ ((n : Int) < 0) := by omega
    have h2 : ¬ (281474976710656 < (n : Int) * (i.bytes : Int)) := by omega
    by_cases h0 : n * i.size = 0
    · have hn := hnil h0
      rw [hn] at hst ⊢
      simp [Builtin.append_, run_underlying ht, run_underlying hk, sizeOf, typeInfo, hi, asInt, asIntOf, e0, h1, h2, hroom, h0, Addr.add_lit, hst]
    · simp [Builtin.append_, run_underlying ht, run_underlying hk, sizeOf, typeInfo, zeroValue, hi, hz, asInt, asIntOf, e0, h1, h2, hroom, h0, Addr.add_lit, ← hnews, hst]
theorem run_append_grow_g (w : World) (t tx ty e : TypeId) (i : TypeInfo) (z : Value) (ht : P.underlying t = some (.slice e)) (hi : P.info? e = some i) (hz : i.zero = some z) (base : Option Addr) (sLen sCap : Nat) (olds : List Value)
    (hold : (Builtin.firstCells i.size sLen (.slice base sLen sCap)).run P w.drew = .ok olds.toArray w.drew) (x : Value) (n : Nat) (news : List Value) (hs : SrcG P i.size tx e x n news w)
    (hg : sCap < sLen + n) (h63 : ((sLen + n : Nat) : Int) ≤ 9223372036854775807) (hfit : Builtin.nextslicecap (sLen + n) sCap * i.bytes ≤ 281474976710656) :
    (Builtin.append_ #[t, tx] ty #[.slice base sLen sCap, x]).run P w =
      .ok (.slice (some ⟨w.heap.size, 0, none⟩) (sLen + n) (grownCap w (sLen + n) sCap e))
        (w.drew.alloc (.cells ((olds ++ news).toArray ++ Builtin.zeroCells z.cells (grownCap w (sLen + n) sCap e - (sLen + n))) e)) := by
  rcases hs with hs | hs
  · exact run_append_grow_src w t tx ty e i z ht hi hz base sLen sCap olds hold x n news hs hg h63 hfit
  · obtain ⟨k, hk⟩ := hs.kind
    obtain ⟨k', rfl⟩ := hs.val
    obtain ⟨i', z', hi', hz', hby, hnews, hnil⟩ := hs.zero
    rw [hi] at hi'; cases hi'
    rw [hz] at hz'; cases hz'
    have e0 : IntKind.wrap .i64 (n : Int) = n := Go.IntWalk.i64_in _ (by have := hs.small; omega)
    have h1 : ¬ ((n : Int) < 0) := by omega
    have h2 : ¬ (281474976710656 < (n : Int) * (i.bytes : Int)) := by omega
    have hn : ¬ (sLen + n ≤ sCap) := by omega
    have h63' : ¬ (9223372036854775807 < ((sLen : Int) + (n : Int))) := by omega
    have h48' : ¬ (281474976710656 < Builtin.nextslicecap (sLen + n) sCap * i.bytes) := by omega
    by_cases h0 : n * i.size = 0
    · have hn' := hnil h0
      rw [hn']
      simp [Builtin.append_, run_underlying ht, run_underlying hk, sizeOf, typeInfo, zeroValue, hi, hz, asInt, asIntOf, e0, h1, h2, hn, h63', h48', Question.forced, hold, h0, newRow, grownCap]
    · simp [Builtin.append_, run_underlying ht, run_underlying hk, sizeOf, typeInfo, zeroValue, hi, hz, asInt, asIntOf, e0, h1, h2, hn, h63', h48', Question.forced, hold, h0, newRow, grownCap, hnews]
      congr 2
      apply Array.ext'
      simp [List.append_assoc]
/-- Onto what is nil. -/
theorem app_nil {X : Ent} {st : St} {C : Ctx} {a : Act} {w : World} (h : Conc X st C a w) {d : Nat} {t0 : Stamp} (hfree : st.made d = false) (hfrz : st.frz (1, d) = false)
    (ht0 : st.cons t0 = true) (ht1 : t0.1 ≠ 1) (htj : ∀ k, st.cons (1, k) = false → st.res k = some t0 → False)
    {ts tx ty E : TypeId} (hT : P.underlying ts = some (.slice E)) (hE : P.rowOk E = true) {l' : List AV} {u2 : Value} {news : List Value} (hs : SrcG P (P.cellsOf E) tx E u2 l'.length news w) (hr : RepRow w C.Sh (P.cellsOf E) l' news)
    (hby : l'.length * P.bytesOf E ≤ 140737488355328) (h63 : l'.length ≤ 9223372036854775807) :
    ∃ u w' C', (Builtin.append_ #[ts, tx] ty #[.slice none 0 0, u2]).run P w = .ok u w' ∧ Conc X { st with made := upd st.made d true, res := upd st.res d (some t0) } C' a w' ∧
      Rep w' C' (.sl (some ((1, d), 0)) l'.isEmpty (P.cellsOf E) l') u := by
  obtain ⟨i, z, hi, hz, hzs, hsz, hbz⟩ := rowOk_of hE
  cases l' with
  | nil =>
    simp only [RepRow] at hr
    subst hr
    exact ⟨_, w, C, run_append_nothing_g w ts tx ty E i hT hi none 0 0 (Nat.le_refl _) u2 (by rw [hsz]; exact hs), h.mark hfree ht0 ht1 htj, .inr (.inl ⟨rfl, rfl, rfl⟩)⟩
  | cons e l =>
    have hlen : 0 < (e :: l).length := by simp
    generalize e :: l = l' at *
    have hrun := run_append_grow_g w ts tx ty E i z hT hi hz none 0 0 [] (run_firstCells_none _ _ _ _ _) u2 l'.length news (by rw [hsz]; exact hs) (by omega) (by omega) (by rw [hbz]; exact growslice_fits (by omega) (by simpa using hby))
    have h1 := h.same (w' := w.drew) rfl rfl rfl rfl
    have hcap : l'.length ≤ grownCap w (0 + l'.length) 0 E := by
      simp only [grownCap, Question.cut]; omega
    generalize grownCap w (0 + l'.length) 0 E = cp at hrun hcap
    obtain ⟨zc, hzc⟩ : ∃ zc, zc = Builtin.zeroCells z.cells (cp - (0 + l'.length)) := ⟨_, rfl⟩
    have hzl : zc.toList.length = (cp - l'.length) * P.cellsOf E := by
      rw [hzc, Array.length_toList, size_zeroCells, hzs, hsz, Nat.zero_add]
    have harr : ([] ++ news).toArray ++ zc = (news ++ zc.toList).toArray := by apply Array.ext'; simp
    rw [← hzc, harr] at hrun
    obtain ⟨C', h2, t, ho, _⟩ := h1.newBlockAt hfree hfrz ht0 ht1 htj (news ++ zc.toList).toArray E
    refine ⟨_, _, C', hrun, h2, ?_⟩
    have he : l'.isEmpty = false := by cases l' with
      | nil => simp at hlen
      | cons => rfl
    have hr' : RepRow w.drew C.Sh (P.cellsOf E) l' news := RepRow.keep (w := w) (w' := w.drew) (fun b hb => ⟨hb, rfl⟩) _ _ _ hr
    have := rep_new (w := w.drew) (C := C) (C' := C') (d := d) (sz := P.cellsOf E) (cap := cp) (l := l') (c := news) (r := zc.toList) (e := E) t ho hr' hcap
      (by
        have h1 := hr.length
        rw [hzl, h1, ← Nat.add_mul]
        congr 1
        omega)
    rw [he, Nat.zero_add]
    exact this
/-- Onto what a name owns. -/
theorem app_own {X : Ent} {st : St} {C : Ctx} {a : Act} {w : World} (h : Conc X st C a w) {d : Nat} {t0 : Stamp} (hfree : st.made d = false) (hfrz : st.frz (1, d) = false)
    (ht0 : st.cons t0 = true) (ht1 : t0.1 ≠ 1) (htj : ∀ k, st.cons (1, k) = false → st.res k = some t0 → False)
    {ts tx ty E : TypeId} (hT : P.underlying ts = some (.slice E)) (hE : P.rowOk E = true) {l l' : List AV} {u2 : Value} {news : List Value} (hs : SrcG P (P.cellsOf E) tx E u2 l'.length news w) (hr : RepRow w C.Sh (P.cellsOf E) l' news)
    (hby : (l.length + l'.length) * P.bytesOf E ≤ 140737488355328) (h63 : l.length + l'.length ≤ 9223372036854775807)
    {b off cap : Nat} {vs : List Value} (hlc : l.length ≤ cap) (hc : cellsAt w b off vs) (hr0 : RepRow w C.Sh (P.cellsOf E) l vs) (hop : openBlock w b (off + cap * P.cellsOf E))
    (hm : X.mine b) (hsh : ¬ C.Sh b) (hbox : ∀ id, C.box id ≠ some b) (hown : ∀ g bs, C.own g ≠ .live b bs) (hfo : ¬ C.fo b) :
    ∃ u w' C', (Builtin.append_ #[ts, tx] ty #[.slice (some ⟨b, off, none⟩) l.length cap, u2]).run P w = .ok u w' ∧ Conc X { st with made := upd st.made d true, res := upd st.res d (some t0) } C' a w' ∧
      Rep w' C' (.sl (some ((1, d), 0)) false (P.cellsOf E) (l ++ l')) u := by
  obtain ⟨i, z, hi, hz, hzs, hsz, hbz⟩ := rowOk_of hE
  obtain ⟨c, e, lo, hi', q1, q2, q3, q4⟩ := hop
  have hvl := hr0.length
  have hnl := hr.length
  by_cases hroom : l.length + l'.length ≤ cap
  · have hsum : (l.length + l'.length) * P.cellsOf E ≤ cap * P.cellsOf E := Nat.mul_le_mul_right _ hroom
    rw [Nat.add_mul] at hsum
    have hrun := run_append_room_g w ts tx ty E i hT hi b off l.length cap u2 l'.length news (by rw [hsz]; exact hs) hroom
      (fun j hj => by rw [hsz]; simp only [World.cell?, q1]; simp; omega)
      (fun j hj => by rw [hsz]; have := q3 (off + l.length * P.cellsOf E + j) (by omega); simp only [World.frozen?, q1]; simp; omega)
    rw [hsz] at hrun
    have h1 := h.writeFree (o := off + l.length * P.cellsOf E) (vs := news) hm hsh hbox hown hfo
    have hlt : b < w.heap.size := (Array.getElem?_eq_some_iff.1 q1).1
    have h2 := h1.ownNew (d := d) (b := b) (base := off) (t0 := t0) (by rw [heap_setCells_size]; exact hlt) hm hfree hfrz hsh hbox hown hfo ht0 ht1 htj
    refine ⟨_, _, _, hrun, h2, .inr (.inr ⟨rfl, b, off, off, cap, vs ++ news, by simp [updO], .inl (by simp), by simp, by simpa using hroom, ?_, ?_, ?_⟩)⟩
    · rw [← hvl]
      exact cellsAt_setCells q1 (by omega) hc
    · have k : ∀ x, C.Sh x → C.Sh x ∧ (w.setCells b (off + l.length * P.cellsOf E) news).heap[x]? = w.heap[x]? := fun x hx => ⟨hx, heap_setCells_ne _ _ _ _ fun e => hsh (e ▸ hx)⟩
      exact (RepRow.keep k _ _ _ hr0).append (RepRow.keep k _ _ _ hr)
    · have hl2 : off + l.length * P.cellsOf E + news.length ≤ c.size := by omega
      refine ⟨_, e, lo, hi', heap_setCells_at news _ w c e _ q1 hl2, ?_, ?_, q4⟩
      · simp only [List.size_toArray]
        rw [putAt_length (by rw [Array.length_toList]; exact hl2), Array.length_toList]
        exact q2
      · intro o ho
        simp only [List.size_toArray] at ho
        rw [putAt_length (by rw [Array.length_toList]; exact hl2), Array.length_toList] at ho
        exact q3 o ho
  · have hrun := run_append_grow_g w ts tx ty E i z hT hi hz (some ⟨b, off, none⟩) l.length cap vs
      (run_firstCells_some _ _ _ _ _ _ _ (by rw [hsz]; exact hvl) (fun j v hj => by rw [Addr.add_mid]; exact hc j v hj)) u2 l'.length news (by rw [hsz]; exact hs) (by omega) (by omega)
      (by rw [hbz]; exact growslice_fits (by omega) hby)
    have h1 := h.same (w' := w.drew) rfl rfl rfl rfl
    have hcap : l.length + l'.length ≤ grownCap w (l.length + l'.length) cap E := by
      simp only [grownCap, Question.cut]; omega
    generalize grownCap w (l.length + l'.length) cap E = cp at hrun hcap
    obtain ⟨zc, hzc⟩ : ∃ zc, zc = Builtin.zeroCells z.cells (cp - (l.length + l'.length)) := ⟨_, rfl⟩
    have hzl : zc.toList.length = (cp - (l.length + l'.length)) * P.cellsOf E := by
      rw [hzc, Array.length_toList, size_zeroCells, hzs, hsz]
    have harr : (vs ++ news).toArray ++ zc = ((vs ++ news) ++ zc.toList).toArray := by apply Array.ext'; simp
    rw [← hzc, harr] at hrun
    obtain ⟨C', h2, t, ho, _⟩ := h1.newBlockAt hfree hfrz ht0 ht1 htj ((vs ++ news) ++ zc.toList).toArray E
    refine ⟨_, _, C', hrun, h2, ?_⟩
    have hr' : RepRow w.drew C.Sh (P.cellsOf E) (l ++ l') (vs ++ news) := RepRow.keep (w := w) (w' := w.drew) (fun b hb => ⟨hb, rfl⟩) _ _ _ (hr0.append hr)
    have := rep_new (w := w.drew) (C := C) (C' := C') (d := d) (sz := P.cellsOf E) (cap := cp) (l := l ++ l') (c := vs ++ news) (r := zc.toList) (e := E) t ho hr' (by simpa using hcap)
      (by
        rw [hzl, List.length_append, hvl, hnl, ← Nat.add_mul, ← Nat.add_mul]
        congr 1
        omega)
    rw [List.length_append] at this
    exact this
end Go.VS
namespace Go.VS
set_option linter.unusedVariables false
set_option linter.unusedSimpArgs false
set_option linter.unusedSectionVars false
open Go
variable {P : Program}
/-- The value that cells make. -/
def ofCells (P : Program) (E : TypeId) (cs : List AV) : Option AV :=
  if P.isAggT E = true then some (.agg cs) else
    match cs with
    | [c] => some c
    | _ => none
def fillElems (st : St) (sz : Nat) (l : List AV) : List (Nat × AV) → Option (List AV × List Stamp)
  | [] => some (l, [])
  | (i, v) :: r => need (st.solid v = true ∧ v.cells.length = sz ∧ i < l.length ∧ frozable v = true ∧ ((stampsOf v).all fun g => !st.cons g) = true)
      ((fillElems st sz (l.set i (froz v)) r).map fun p => (p.1, stampsOf v ++ p.2))
/-- The element that a type's zero value is. -/
def zeroElem (P : Program) (E : TypeId) : Option AV :=
  (zeroAV P E).bind fun z => (ofCells P E z).bind fun z0 => need (P.rowOk E = true ∧ z.length = P.cellsOf E ∧ frozable z0 = true ∧ stampsOf z0 = [] ∧ (P.underlying E).isSome = true) (some (froz z0))
/-- The runes of bytes. -/
def runesFromS (s : ByteArray) : Nat → Nat → List Int
  | 0, _ => []
  | n + 1, i => if i < s.size then Int.ofNat (Utf8.decode s i).1 :: runesFromS s n (i + (Utf8.decode s i).2) else []
def runesS (l : List UInt8) : List Int := runesFromS ⟨l.toArray⟩ l.length 0
theorem runesFrom_eq (s : ByteArray) : ∀ (n i : Nat) (acc : Array Value), Conv.runesFrom s n i acc = acc ++ ((runesFromS s n i).map (Value.int .i32)).toArray
  | 0, i, acc => by simp [Conv.runesFrom, runesFromS]
  | n + 1, i, acc => by
    unfold Conv.runesFrom runesFromS
    split
    · simp only
      rw [runesFrom_eq s n]
      apply Array.ext'
      simp
    · simp
theorem runesFromS_len (s : ByteArray) : ∀ (n i : Nat), (runesFromS s n i).length ≤ n
  | 0, i => by simp [runesFromS]
  | n + 1, i => by
    unfold runesFromS
    split
    · have := runesFromS_len s n (i + (Utf8.decode s i).2)
      simp only [List.length_cons]; omega
    · simp
theorem row_runes {w : World} {Sh : Nat → Prop} : ∀ (ns : List Int), RepRow w Sh 1 (ns.map (AV.int .i32)) (ns.map (Value.int .i32))
  | [] => rfl
  | n :: ns => ⟨.int .i32 n, ns.map (Value.int .i32), by simp [Value.cells], by simp [Value.cells], fun u hu => by simp [Value.cells] at hu; subst hu; rfl, rfl, row_runes ns⟩
def sliceOp (P : Program) (st : St) (o : Oper) : Option St :=
  match o.op, o.dst with
  | .buildSlice T n parts, some d =>
    match P.underlying T with
    | some (.slice E) =>
      (zeroElem P E).bind fun z0 =>
      (fillElems st (P.cellsOf E) (List.replicate n z0) (parts.toList.map fun p => (p.1, st.ev P E p.2))).bind fun r =>
      need (n * P.cellsOf E ≤ 16777216 ∧ (st.freezeL r.2).canNew d = true)
        (some (((st.freezeL r.2).mkNew d).put d (.sl (some ((1, d), 0)) false (P.cellsOf E) r.1)))
    | _ => none
  | .makeSlice T len cap, some d =>
    match P.underlying T with
    | some (.slice E) =>
      (zeroElem P E).bind fun z0 =>
      (natOf (st.ev P 0 len)).bind fun l => (natOf (st.ev P 0 cap)).bind fun c =>
      need (l ≤ c ∧ P.bytesOf E * c ≤ 281474976710656 ∧ c ≤ 9223372036854775807 ∧ st.canNew d = true)
        (some ((st.mkNew d).put d (.sl (some ((1, d), 0)) false (P.cellsOf E) (List.replicate l z0))))
    | _ => none
  | .convert S T x, some d =>
    match P.underlying T with
    | some (.slice E) =>
      match P.underlying E, st.ev P S x with
      | some (.int .u8), .str l => need ((P.underlying S) matches some .string ∧ st.canNew d = true ∧ P.cellsOf E = 1)
          (some ((st.mkNew d).put d (.sl (some ((1, d), 0)) false 1 (l.map u8))))
      | some (.int .i32), .str l => need ((P.underlying S) matches some .string ∧ st.canNew d = true ∧ P.cellsOf E = 1 ∧ l.length ≤ 1000000)
          (some ((st.mkNew d).put d (.sl (some ((1, d), 0)) false 1 ((runesS l).map (AV.int .i32)))))
      | _, _ => none
    | _ => none
  | _, _ => none
theorem RepRow.set {w : World} {Sh : Nat → Prop} {sz : Nat} {l : List AV} {vs : List Value} (h : RepRow w Sh sz l vs) {i : Nat} (hi : i < l.length) {e : AV} {v : Value}
    (hs : v.cells.size = sz) (h1 : ∀ u ∈ v.cells.toList, u.oneCell' = true) (hr : RepF w Sh e v) : RepRow w Sh sz (l.set i e) (putAt vs (i * sz) v.cells.toList) := by
  have e1 : l.set i e = l.take i ++ (e :: l.drop (i + 1)) := by
    rw [List.set_eq_take_append_cons_drop, if_pos hi]
  have e2 : putAt vs (i * sz) v.cells.toList = vs.take (i * sz) ++ (v.cells.toList ++ vs.drop ((i + 1) * sz)) := by
    simp only [putAt, Array.length_toList, hs, List.append_assoc, Nat.add_mul, Nat.one_mul]
  rw [e1, e2]
  exact (h.take i).append ⟨v, _, rfl, hs, h1, hr, h.drop (i + 1)⟩
theorem made_row (z : Array Value) : ∀ (n : Nat), (List.range (n * z.size)).map (fun j => z[j % z.size]!) = (List.replicate n z.toList).flatten
  | 0 => by simp
  | n + 1 => by
    rw [List.replicate_succ, List.flatten_cons, ← made_row z n, Nat.add_mul, Nat.one_mul, Nat.add_comm, List.range_add, List.map_append, List.map_map]
    congr 1
    · apply List.ext_getElem
      · simp
      · intro j h1 h2
        simp at h1
        simp [Nat.mod_eq_of_lt h1, h1]
    · apply List.map_congr_left
      intro j _
      simp
theorem row_replicate {w : World} {Sh : Nat → Prop} {sz : Nat} {e : AV} {v : Value} (hs : v.cells.size = sz) (h1 : ∀ u ∈ v.cells.toList, u.oneCell' = true) (hr : RepF w Sh e v) :
    ∀ (n : Nat), RepRow w Sh sz (List.replicate n e) (List.replicate n v.cells.toList).flatten
  | 0 => by simp [RepRow]
  | n + 1 => ⟨v, _, rfl, hs, h1, hr, row_replicate hs h1 hr n⟩
def cellsVal (P : Program) (E : TypeId) (cs : Array Value) : Value := if P.isAggT E = true then .agg cs else cs.getD 0 undef
theorem ofCells_ok {E : TypeId} {cs : List AV} {v : AV} (h : ofCells P E cs = some v) {w : World} {C : Ctx} {z : Array Value} (hr : RepS w C cs z.toList) :
    (cellsVal P E z).cells = z ∧ Rep w C v (cellsVal P E z) := by
  unfold ofCells at h
  unfold cellsVal
  split at h
  · rename_i ha
    cases h
    rw [if_pos ha]
    exact ⟨rfl, z.toList, by simp, hr⟩
  · rename_i ha
    rw [if_neg ha]
    split at h
    · cases h
      obtain ⟨u, r, h0, h1, h2, h3⟩ := hr
      simp only [RepS] at h3; subst h3
      have hz : z = #[u] := by apply Array.ext'; rw [h0]
      subst hz
      have : u.cells = #[u] := by cases u <;> first | rfl | (simp [Value.oneCell'] at h1)
      exact ⟨by simpa using this, by simpa using h2⟩
    · cases h
theorem zeroElem_ok {E : TypeId} {e : AV} (h : zeroElem P E = some e) : ∃ i z u, P.info? E = some i ∧ i.zero = some z ∧ (∀ w, (zeroValue E).run P w = .ok z w) ∧ i.size = P.cellsOf E ∧ i.bytes = P.bytesOf E ∧
    z.cells.size = P.cellsOf E ∧ u.cells = z.cells ∧ (∀ v ∈ u.cells.toList, v.oneCell' = true) ∧ ∀ w (C : Ctx), RepF w C.Sh e u := by
  unfold zeroElem at h
  obtain ⟨cs, hz, h⟩ := Option.bind_eq_some_iff.1 h
  obtain ⟨z0, hz0, h⟩ := Option.bind_eq_some_iff.1 h
  obtain ⟨⟨hE, hl, hf, hst, hu⟩, h⟩ := need_some h
  cases h
  obtain ⟨i, z, hi, hzz, hzs, hsz, hbz⟩ := rowOk_of hE
  obtain ⟨z', hz1, hz2, _⟩ := zeroAV_ok hz
  have hzz' : z' = z := by
    have := hz1 default
    simp [zeroValue, typeInfo, hi, hzz] at this
    exact this.symm
  subst hzz'
  let C0 : Ctx := ⟨fun _ => False, fun _ => .none, fun _ => none, fun _ => False⟩
  have hone : ∀ v ∈ z'.cells.toList, v.oneCell' = true := fun v hv => (hz2 default C0).one v hv
  have hcell := (ofCells_ok hz0 (hz2 default C0)).1
  refine ⟨i, z', cellsVal P E z'.cells, hi, hzz, hz1, hsz, hbz, by rw [hzs, hsz], hcell, by rw [hcell]; exact hone, fun w C => ?_⟩
  exact froz_ok z0 _ hf (by rw [hst]; simp) (ofCells_ok hz0 (hz2 w C)).2
/-- What is appended: elements, or so many zero ones. -/
def srcAll (P : Program) (st : St) (tx E : TypeId) (x : AV) : Option (List AV) :=
  match x with
  | .int _ n =>
    match P.underlying tx with
    | some (.int _) => (zeroElem P E).bind fun z0 => need (0 ≤ n ∧ n ≤ 9223372036854775807 ∧ n * P.bytesOf E ≤ 281474976710656) (some (List.replicate n.toNat z0))
    | _ => none
  | x => srcOf P st tx (P.cellsOf E) x
theorem srcAll_ok {X : Ent} {st : St} {C : Ctx} {a : Act} {w : World} (hc : Conc X st C a w) {tx E : TypeId} {x : AV} {l : List AV} (h : srcAll P st tx E x = some l) {u : Value} (hr : Rep w C x u) :
    ∃ news, SrcG P (P.cellsOf E) tx E u l.length news w ∧ RepRow w C.Sh (P.cellsOf E) l news := by
  have plain : ∀ {x : AV}, srcOf P st tx (P.cellsOf E) x = some l → Rep w C x u → ∃ news, SrcG P (P.cellsOf E) tx E u l.length news w ∧ RepRow w C.Sh (P.cellsOf E) l news := by
    intro x h hr
    obtain ⟨news, h1, h2⟩ := srcOf_ok hc h hr
    exact ⟨news, .inl h1, h2⟩
  unfold srcAll at h
  split at h
  · rename_i k n
    split at h
    · rename_i k' hk
      obtain ⟨z0, hz0, h⟩ := Option.bind_eq_some_iff.1 h
      obtain ⟨⟨h1, h2, h3⟩, h⟩ := need_some h
      cases h
      simp only [Rep] at hr
      subst hr
      obtain ⟨i, z, u0, hi, hz, hzr, hsz, hbz, hzs, huc, hone, hF⟩ := zeroElem_ok hz0
      obtain ⟨m, rfl⟩ := Int.eq_ofNat_of_zero_le h1
      have hrow := row_replicate (w := w) (Sh := C.Sh) (sz := P.cellsOf E) (e := z0) (v := u0) (by rw [huc]; exact hzs) hone (hF w C) m
      have hcells : (Builtin.zeroCells z.cells m).toList = (List.replicate m u0.cells.toList).flatten := by
        rw [huc, ← made_row z.cells m]
        simp [Builtin.zeroCells]
      have hlen : ((List.replicate m u0.cells.toList).flatten).length = m * P.cellsOf E := by simp [huc, hzs]
      refine ⟨(List.replicate m u0.cells.toList).flatten, .inr ?_, by simpa using hrow⟩
      refine ⟨⟨k', hk⟩, ⟨k, by simp⟩, by simp; omega, ⟨i, z, hi, hz, by simp; rw [hbz]; exact h3, by simpa using hcells.symm, fun h0 => ?_⟩, by simpa using hlen, fun v hv => hrow.one v hv⟩
      apply List.eq_nil_of_length_eq_zero
      rw [hlen]
      simpa using h0
    · cases h
  · exact plain h hr
def appOp (P : Program) (st : St) (o : Oper) : Option St :=
  match o.op, o.dst with
  | .call c, some d =>
    match c.callee, c.args.toList, c.argTypes.toList with
    | .builtin .append, [s, x], [ts, tx] =>
      match P.underlying ts with
      | some (.slice E) =>
        match st.ev P ts s with
        | .sl q nb sz' l =>
          (srcAll P st tx E (st.ev P tx x)).bind fun l' =>
          need (P.rowOk E = true ∧ (nb = true ∨ sz' = P.cellsOf E) ∧ (l.length + l'.length) * P.bytesOf E ≤ 140737488355328 ∧ l.length + l'.length ≤ 9223372036854775807 ∧
              st.made d = false ∧ st.frz (1, d) = false ∧ st.cons (1, d) = false)
            (match q with
             | none => need (nb = true ∧ st.cons (0, d) = false) (some ((st.mkNew d).put d (.sl (some ((1, d), 0)) (nb && l'.isEmpty) (P.cellsOf E) (l ++ l'))))
             | some (g, _) => need (st.cons g = false ∧ st.frz g = false ∧ (g.1 = 1 → st.made g.2 = true)) (some ((st.eat g d).put d (.sl (some ((1, d), 0)) (nb && l'.isEmpty) (P.cellsOf E) (l ++ l')))))
        | _ => none
      | _ => none
    | _, _, _ => none
  | _, _ => none
theorem step_app {X : Ent} {st st' : St} {o : Oper} (h : appOp P st o = some st') (hd : St.fits X.n o.dst = true) : OpStep P X st o st' :=
  OpStep.value fun C a w hc => by
    unfold appOp at h
    split at h
    · rename_i c d ho hdst
      split at h
      · rename_i s x ts tx hcal hargs htys
        split at h
        · rename_i E hT
          split at h
          · rename_i q nb sz' l hs
            obtain ⟨l', hl', h1⟩ := Option.bind_eq_some_iff.1 h
            obtain ⟨⟨hE, hsz, hby, h63, c1, c2, c3⟩, h2⟩ := need_some h1
            have hn : d < X.n := by rw [hdst] at hd; simpa [St.fits] using hd
            have hsr := hc.ev P ts s
            rw [hs] at hsr
            have hxr := hc.ev P tx x
            have hargs' : c.args = #[s, x] := by apply Array.ext'; simpa using hargs
            have htys' : c.argTypes = #[ts, tx] := by apply Array.ext'; simpa using htys
            have hexec : ∀ {u w'}, (Builtin.append_ #[ts, tx] o.type #[a.eval s, a.eval x]).run P w = .ok u w' → (execOp a.eval o).run P w = .ok (.value u) w' := by
              intro u w' hu
              simp [execOp, ho, resolve, hcal, invoke, builtin, hargs', htys', hu]
            cases q with
            | none =>
              obtain ⟨⟨rfl, c4⟩, h3⟩ := need_some h2
              cases h3
              rcases hsr with ⟨_, rfl, hu⟩ | ⟨hf, _⟩
              · have hk := hc.kill (0, d) (by simp)
                have t0 : C.To w w { C with own := updO C.own (0, d) .dead } := ⟨fun _ hb => ⟨hb, rfl⟩, fun _ _ hb => hb, fun g => by
                  by_cases e : g = (0, d)
                  · subst e; exact .inr (.inl (by simp [updO]))
                  · exact .inr (.inr ⟨by simp [updO, e], fun _ _ _ => rfl⟩)⟩
                obtain ⟨news, hsrc, hrow⟩ := srcAll_ok hc hl' hxr
                obtain ⟨u, w', C', hu1, hu2, hu3⟩ := app_nil hk (d := d) (t0 := (0, d)) c1 c2 (by simp [updS]) (by simp)
                  (fun k hk' hr => by
                    simp only [updS] at hk'
                    split at hk'
                    · cases hk'
                    · have := (hc.tg k _ hr).1; rw [c4] at this; cases this) hT hE hsrc hrow (by simpa using hby) (by simpa using h63)
                refine ⟨u, w', C', hexec (by rw [hu]; exact hu1), ?_⟩
                rw [hdst]
                exact hu2.put hn (by simpa using hu3)
              · cases hf
            | some p =>
              obtain ⟨g, eo⟩ := p
              obtain ⟨⟨c4, c5, c6⟩, h3⟩ := need_some h2
              cases h3
              have hgd : C.own g ≠ .dead := fun e => by have := (hc.cons g).2 e; rw [c4] at this; cases this
              have hk := hc.kill g c6
              -- the target
              have htn : (updS st.cons g true) (st.tname g) = true ∧ (st.tname g).1 ≠ 1 := by
                unfold St.tname
                split
                · rename_i e1
                  obtain ⟨x, hx⟩ := Option.isSome_iff_exists.1 (hc.tgMade g.2 (c6 e1))
                  have := hc.tg g.2 x hx
                  rw [hx]
                  simp only [Option.getD_some, updS]
                  exact ⟨by split <;> simp [this.1], this.2⟩
                · rename_i e1
                  exact ⟨by simp [updS], e1⟩
              have htj : ∀ k, updS st.cons g true (1, k) = false → st.res k = some (st.tname g) → False := by
                intro k hk' hr
                have hne : ((1, k) : Stamp) ≠ g := fun e => by simp [updS, e] at hk'
                have hk2 : st.cons (1, k) = false := by simpa [updS, hne] using hk'
                unfold St.tname at hr
                split at hr
                · rename_i e1
                  obtain ⟨x, hx⟩ := Option.isSome_iff_exists.1 (hc.tgMade g.2 (c6 e1))
                  rw [hx] at hr
                  simp only [Option.getD_some] at hr
                  have hg1 : g = (1, g.2) := by obtain ⟨g1, g2⟩ := g; simp at e1; simp [e1]
                  have := hc.tgInj k g.2 x hk2 (by rw [← hg1]; exact c4) hr hx
                  exact hne (by rw [this]; exact hg1.symm)
                · have := (hc.tg k _ hr).1; rw [c4] at this; cases this
              obtain ⟨news, hsrc, hrow⟩ := srcAll_ok hc hl' hxr
              rcases hsr with hdd | ⟨hnb, rfl, hu⟩ | ⟨hnb, b, base, off, cap, vs, hg, hoff, hu, hlc, hcc, hrr, hop⟩
              · exact absurd hdd hgd
              · subst hnb
                obtain ⟨u, w', C', hu1, hu2, hu3⟩ := app_nil hk (d := d) (t0 := st.tname g) c1 c2 htn.1 htn.2 htj hT hE hsrc hrow (by simpa using hby) (by simpa using h63)
                refine ⟨u, w', C', hexec (by rw [hu]; exact hu1), ?_⟩
                rw [hdst]
                exact hu2.put hn (by simpa using hu3)
              · subst hnb
                have hsz2 : sz' = P.cellsOf E := hsz.resolve_left (by simp)
                subst hsz2
                have m := hc.mem
                obtain ⟨u, w', C', hu1, hu2, hu3⟩ := app_own hk (d := d) (t0 := st.tname g) c1 c2 htn.1 htn.2 htj hT hE hsrc hrow hby h63 hlc hcc hrr hop
                  (m.ownMine g b base hg c5) (m.ownSh g b base hg c5) (fun id hb => m.ownBox g b base id hg c5 hb)
                  (fun g' bs hg' => by
                    simp only [updO] at hg'
                    split at hg'
                    · cases hg'
                    · rename_i hne
                      exact hne (m.ownOne g g' b base bs hg hg' c5).symm)
                  (hc.frg.out b (.inl ⟨g, base, hg, c5⟩))
                refine ⟨u, w', C', hexec (by rw [hu]; exact hu1), ?_⟩
                rw [hdst]
                exact hu2.put hn (by simpa using hu3)
          · cases h
        · cases h
      · cases h
    · cases h
theorem fillElems_ok {X : Ent} {st : St} {C C1 : Ctx} {a : Act} {w : World} (hc : Conc X st C a w) (t : C.To w w C1) (hown : C1.own = C.own) (place : Nat → Option (Nat × Nat)) {sz : Nat} (hp : ∀ i, place i = some (i * sz, sz)) :
    ∀ (ps : List (Nat × AV)) (us : List (Nat × Value)) (l out : List AV) (gs : List Stamp) (vs : List Value), RepP w C ps us → RepRow w C1.Sh sz l vs → fillElems st sz l ps = some (out, gs) →
      (∀ g ∈ gs, ∀ b base, C.own g = .live b base → C1.Sh b) →
      ∃ r, Instr.fill place vs.toArray us = some r ∧ RepRow w C1.Sh sz out r.toList
  | _, _, l, out, gs, vs, .nil, hr, h, _ => by cases h; exact ⟨vs.toArray, rfl, hr⟩
  | (i, v) :: r, (_, u) :: s, l, out, gs, vs, .cons hv tt, hr, h, hs => by
    simp only [fillElems] at h
    obtain ⟨⟨h1, h2, h3, h4, h5⟩, h'⟩ := need_some h
    obtain ⟨⟨out', gs'⟩, h6, h7⟩ := Option.map_eq_some_iff.1 h'
    cases h7
    have hcl := rep_solid hc.cons h1 hv
    have hlen := hcl.length
    have hvl := hr.length
    rw [Array.length_toList] at hlen
    have hsz : u.cells.size = sz := by omega
    have hF : RepF w C1.Sh (froz v) u := froz_ok v u h4 (fun g hg => ⟨fun e => by
      have hg5 := List.all_eq_true.1 h5 g hg
      rw [hown] at e
      have := (hc.cons g).2 e
      simp [this] at hg5, fun b base hb => hs g (by simp [hg]) b base (by rw [← hown]; exact hb)⟩) (Rep.to t v u hv)
    have hset := hr.set h3 hsz (fun x hx => hcl.one x hx) hF
    have hmul : i * sz + sz ≤ l.length * sz := by
      have : (i + 1) * sz ≤ l.length * sz := Nat.mul_le_mul_right _ h3
      rw [Nat.add_mul, Nat.one_mul] at this; exact this
    obtain ⟨q, hq1, hq2⟩ := fillElems_ok hc t hown place hp r s _ out' gs' _ tt hset h6 (fun g hg => hs g (by simp [hg]))
    refine ⟨q, ?_, hq2⟩
    unfold Instr.fill
    rw [hp i]
    have hs1 : ¬ (u.cells.size ≠ sz) := by omega
    have hs2 : ¬ (i * sz + u.cells.size > vs.toArray.size) := by simp; omega
    simp only [hs1, hs2, decide_false, Bool.or_self, if_false, Bool.false_eq_true]
    rw [← hq1]
    congr 1
    apply Array.ext'
    have hf := fold_put u.cells.toList 0 (i * sz) vs.toArray (by simp; omega)
    have e : (u.cells.zipIdx.foldl (fun (cs : Array Value) (x : Value × Nat) => cs.setIfInBounds (i * sz + x.2) x.1) vs.toArray).toList = putAt vs (i * sz) u.cells.toList := by
      rw [← Array.foldl_toList, Array.toList_zipIdx]
      simpa using hf
    simpa using e
/-- A block that is new, whatever lies in it, gets a name. -/
theorem Conc.newBlockG {X : Ent} {st : St} {C : Ctx} {a : Act} {w w' : World} (h : Conc X st C a w) {d : Nat} (hc : st.canNew d = true) (hs : w.heap.size < w'.heap.size) (hk : ∀ k, k < w.heap.size → w'.heap[k]? = w.heap[k]?)
    (ho : w'.os = w.os) (ht : w'.tape = w.tape) (hu : w'.output = w.output) :
    ∃ C', Conc X (st.mkNew d) C' a w' ∧ C.To w w' C' ∧ C'.own (1, d) = .live w.heap.size 0 ∧ C'.Sh = C.Sh := by
  simp only [St.canNew, Bool.and_eq_true, Bool.not_eq_true'] at hc
  obtain ⟨⟨⟨c1, c2⟩, c3⟩, c4⟩ := hc
  have h1 := h.kill (0, d) (by simp)
  have h2 := h1.grow (Nat.le_of_lt hs) hk ho ht hu
  have m := h.mem
  have notgt : ∀ k, st.cons (1, k) = false → st.res k = some (0, d) → False := by
    intro k _ hk
    have := (h.tg k _ hk).1
    rw [c3] at this; cases this
  have h3 := h2.ownNew (d := d) (b := w.heap.size) (base := 0) (t0 := (0, d)) hs (.inl m.size) c1 c2 (fun hs => by have := m.shIn _ hs; omega)
    (fun id hb => by have := m.boxIn id _ hb; omega)
    (fun g bs hg => by
      simp only [updO] at hg
      split at hg
      · cases hg
      · have := m.ownIn g _ _ hg; omega)
    (fun hf => by have := h.frg.fin _ hf; omega) (by simp [updS]) (by simp)
    (fun k hk hr => by
      simp only [updS] at hk
      split at hk
      · cases hk
      · exact notgt k hk hr)
  refine ⟨_, h3, ⟨fun b hb => ⟨hb, hk b (m.shIn b hb)⟩, fun _ _ hb => hb, fun g => ?_⟩, by simp [updO], rfl⟩
  by_cases e1 : g = (1, d)
  · subst e1
    left
    cases e : C.own (1, d) with
    | none => rfl
    | dead => have := h.made d (by rw [e]; simp); rw [c1] at this; cases this
    | live b base => have := h.made d (by rw [e]; simp); rw [c1] at this; cases this
  · by_cases e2 : g = (0, d)
    · subst e2; right; left; simp [updO]
    · right; right
      exact ⟨by simp [updO, e1, e2], fun b base hb => hk b (m.ownIn g b base hb)⟩
theorem step_slice {X : Ent} {st st' : St} {o : Oper} (h : sliceOp P st o = some st') (hd : St.fits X.n o.dst = true) : OpStep P X st o st' :=
  OpStep.value fun C a w hc => by
    unfold sliceOp at h
    split at h
    · rename_i T n parts d ho hdst
      have hn : d < X.n := by rw [hdst] at hd; simpa [St.fits] using hd
      split at h
      · rename_i E hT
        obtain ⟨z0, hz0, h⟩ := Option.bind_eq_some_iff.1 h
        obtain ⟨⟨out, gs⟩, hfill, h⟩ := Option.bind_eq_some_iff.1 h
        obtain ⟨⟨hbig, hnew⟩, h⟩ := need_some h
        cases h
        obtain ⟨i, z, u0, hi, hz, hzr, hsz, hbz, hzs, huc, hone, hF⟩ := zeroElem_ok hz0
        have hgs : ∀ (ps : List (Nat × AV)) (l out : List AV) (gs : List Stamp), fillElems st (P.cellsOf E) l ps = some (out, gs) → ∀ g ∈ gs, st.cons g = false := by
          intro ps
          induction ps with
          | nil => intro l out gs h g hg; cases h; simp at hg
          | cons p ps ih =>
            intro l out gs h g hg
            obtain ⟨i, v⟩ := p
            simp only [fillElems] at h
            obtain ⟨⟨_, _, _, _, h5⟩, h'⟩ := need_some h
            obtain ⟨⟨out', gs'⟩, h6, h7⟩ := Option.map_eq_some_iff.1 h'
            cases h7
            rcases List.mem_append.1 hg with hg | hg
            · simpa using List.all_eq_true.1 h5 g hg
            · exact ih _ _ _ h6 g hg
        obtain ⟨C1, hc1, t1, o1, b1, m1, s1⟩ := hc.freezeL gs (hgs _ _ _ _ hfill)
        have hrow0 : RepRow w C1.Sh (P.cellsOf E) (List.replicate n z0) (List.replicate n u0.cells.toList).flatten := row_replicate (by rw [huc]; exact hzs) hone (hF w C1) n
        obtain ⟨r, hr1, hr2⟩ := fillElems_ok hc t1 o1 (fun i => some (i * P.cellsOf E, P.cellsOf E)) (fun i => rfl) _ (parts.toList.map fun p => (p.1, a.eval p.2)) _ _ _ _ (rep_p hc (fun _ => E) parts.toList) hrow0 hfill s1
        obtain ⟨C2, hc2, t2, ho2, hsh2⟩ := hc1.newBlock hnew r E
        have hr2l := hr2.length
        have hol : out.length = n := by
          have : ∀ (ps : List (Nat × AV)) (l out : List AV) (gs : List Stamp), fillElems st (P.cellsOf E) l ps = some (out, gs) → out.length = l.length := by
            intro ps
            induction ps with
            | nil => intro l out gs h; cases h; rfl
            | cons p ps ih =>
              intro l out gs h
              obtain ⟨i, v⟩ := p
              simp only [fillElems] at h
              obtain ⟨_, h'⟩ := need_some h
              obtain ⟨⟨out', gs'⟩, h6, h7⟩ := Option.map_eq_some_iff.1 h'
              cases h7
              simpa using ih _ _ _ h6
          simpa using this _ _ _ _ hfill
        refine ⟨.slice (some ⟨w.heap.size, 0, none⟩) n n, w.alloc (.cells r E), C2, ?_, ?_⟩
        · have hI : (P.info? E).isSome = true := by simp [hi]
          have hbig' : ¬ (16777216 < n * P.cellsOf E) := by omega
          have hcells : ((Array.range (n * P.cellsOf E)).map (fun j => z.cells[j % z.cells.size]!)) = ((List.replicate n u0.cells.toList).flatten).toArray := by
            apply Array.ext'
            rw [huc, ← made_row z.cells n, hzs]
            simp
          by_cases hz0' : n * P.cellsOf E = 0
          · have he : ((List.replicate n u0.cells.toList).flatten).toArray = #[] := by rw [← hcells, hz0']; simp
            rw [he] at hr1
            have e0 : Array.map (fun _ : Nat => (default : Value)) (Array.range 0) = #[] := by simp
            simp [execOp, ho, Instr.buildSlice, run_underlying hT, run_sizeOf hI, hz0', newRow]
            rw [e0, hr1]
            simp
          · rw [← hcells] at hr1
            simp [execOp, ho, Instr.buildSlice, run_underlying hT, run_sizeOf hI, hz0', hbig', hzr, hr1, newRow]
        · rw [hdst]
          refine hc2.put hn ?_
          have := rep_new (w := w) (C := C1) (C' := C2) (d := d) (sz := P.cellsOf E) (cap := n) (l := out) (c := r.toList) (r := []) (e := E) (by simpa using t2) (by simpa using ho2) hr2 (by omega) (by simp; rw [hol] at hr2l; simpa using hr2l)
          rw [hol] at this
          simpa using this
      · cases h
    · rename_i T len cap d ho hdst
      have hn : d < X.n := by rw [hdst] at hd; simpa [St.fits] using hd
      split at h
      · rename_i E hT
        obtain ⟨z0, hz0, h⟩ := Option.bind_eq_some_iff.1 h
        obtain ⟨l, hl, h⟩ := Option.bind_eq_some_iff.1 h
        obtain ⟨c, hcp, h⟩ := Option.bind_eq_some_iff.1 h
        obtain ⟨⟨hlc, hby, h63, hnew⟩, h⟩ := need_some h
        cases h
        obtain ⟨i, z, u0, hi, hz, hzr, hsz, hbz, hzs, huc, hone, hF⟩ := zeroElem_ok hz0
        obtain ⟨k1, n1, hv1, hp1, e1⟩ := natOf_rep hl (hc.ev P 0 len)
        obtain ⟨k2, n2, hv2, hp2, e2⟩ := natOf_rep hcp (hc.ev P 0 cap)
        have hrun := run_make w T E i z hT hi hz k1 k2 n1 n2 hp1 (by omega) (by rw [hbz, ← Int.toNat_of_nonneg hp2, e2]; have := Int.ofNat_le.2 hby; rw [Int.natCast_mul] at this; exact this) (by omega)
        rw [e1, e2] at hrun
        have hcells : madeCells z.cells (c * i.size) = ((List.replicate l u0.cells.toList).flatten ++ (List.replicate (c - l) u0.cells.toList).flatten).toArray := by
          apply Array.ext'
          rw [← List.flatten_append, List.replicate_append_replicate, show l + (c - l) = c by omega, huc, ← made_row z.cells c, hzs, hsz]
          simp [madeCells]
          intro j _
          rw [hzs]
        rw [hcells] at hrun
        obtain ⟨C2, hc2, t2, ho2, hsh2⟩ := hc.newBlock hnew _ E
        refine ⟨_, _, C2, by simp only [execOp, ho, hv1, hv2, Sem.run_bind, hrun]; rfl, ?_⟩
        rw [hdst]
        refine hc2.put hn ?_
        have hrow := row_replicate (w := w) (Sh := C.Sh) (sz := P.cellsOf E) (e := z0) (v := u0) (by rw [huc]; exact hzs) hone (hF w C) l
        have hlen : ∀ k, ((List.replicate k u0.cells.toList).flatten).length = k * P.cellsOf E := by
          intro k; simp [huc, hzs]
        have := rep_new (cap := c) t2 ho2 hrow (by simpa using hlc) (by rw [hlen, hlen, ← Nat.add_mul]; congr 1; omega)
        simpa using this
      · cases h
    · rename_i S T x d ho hdst
      have hn : d < X.n := by rw [hdst] at hd; simpa [St.fits] using hd
      split at h
      · rename_i E hT
        split at h
        · rename_i l hE hx
          obtain ⟨⟨hS, hnew, hc1⟩, h⟩ := need_some h
          cases h
          have hxr := hc.ev P S x
          rw [hx] at hxr
          simp only [Rep] at hxr
          split at hS
          · rename_i hS'
            have hsz : (⟨l.toArray⟩ : ByteArray).size = l.length := by simp [ByteArray.size]
            have hcap : l.length ≤ grownCap w l.length 0 E := by simp only [grownCap, Question.cut]; omega
            have hrun := Lib.run_convert_string_bytes (P := P) w S T E ⟨l.toArray⟩ hS' hT hE
            obtain ⟨C2, hc2, t2, ho2, hsh2⟩ := hc.newBlockG (w' := Lib.bytesWorld w E ⟨l.toArray⟩) hnew (by rw [Lib.bytesWorld_size]; omega) (fun k hk => Lib.bytesWorld_at_old w E _ k hk)
              rfl rfl rfl
            refine ⟨.slice (some ⟨w.heap.size, 0, none⟩) l.length (grownCap w l.length 0 E), Lib.bytesWorld w E ⟨l.toArray⟩, C2, ?_, ?_⟩
            · rw [hsz] at hrun
              simp only [execOp, ho, hxr, Sem.run_bind, hrun]
              rfl
            · rw [hdst]
              refine hc2.put hn (.inr (.inr ⟨rfl, w.heap.size, 0, 0, grownCap w l.length 0 E, byteCells ⟨l.toArray⟩, ho2, .inl (by simp), by simp, by simpa using hcap, ?_, row_bytes l, ?_⟩))
              · intro j v hj
                have hj' : j < l.length := by have := (List.getElem?_eq_some_iff.1 hj).1; rw [byteCells_length, hsz] at this; exact this
                rw [Nat.zero_add, Lib.bytesWorld_cell w E ⟨l.toArray⟩ j (by rw [hsz]; exact hj'), ← hj]
                simp [byteCells, List.getD, hj']
              · refine ⟨_, E, _, _, Lib.bytesWorld_at_new w E ⟨l.toArray⟩, ?_, fun o ho => by omega, by omega⟩
                simp [Lib.bytesCells, hsz]
                omega
          · cases hS
        · rename_i l hE hx
          obtain ⟨⟨hS, hnew, hc1, hl⟩, h⟩ := need_some h
          cases h
          have hxr := hc.ev P S x
          rw [hx] at hxr
          simp only [Rep] at hxr
          split at hS
          · rename_i hS'
            have hsz : (⟨l.toArray⟩ : ByteArray).size = l.length := by simp [ByteArray.size]
            have hru : Conv.runesFrom ⟨l.toArray⟩ l.length 0 #[] = ((runesS l).map (Value.int .i32)).toArray := by
              rw [runesFrom_eq]; simp [runesS]
            have hrl : (runesS l).length ≤ l.length := runesFromS_len _ _ _
            have hcap : (runesS l).length ≤ grownCap w (runesS l).length 0 E := by simp only [grownCap, Question.cut]; omega
            have hrun := run_runes_of_string (P := P) w S T E ⟨l.toArray⟩ hS' hT hE
            rw [hsz, hru] at hrun
            simp only [List.size_toArray, List.length_map] at hrun
            have hrun := hrun (by omega)
            generalize hobj : ((runesS l).map (Value.int .i32)).toArray ++ Array.replicate (grownCap w (runesS l).length 0 E - (runesS l).length) (Value.int .i32 0) = cs at hrun
            obtain ⟨C2, hc2, t2, ho2, hsh2⟩ := hc.newBlockG (w' := w.drew.alloc (.cells cs E)) hnew (by simp) (fun k hk => by
              have h1 : w.heap.size ≠ k := by omega
              simp [World.alloc, World.drew, -World.alloc_eq, -World.drew_eq, Array.getElem?_push, Ne.symm h1]) rfl rfl rfl
            have hat : (w.drew.alloc (.cells cs E)).heap[w.heap.size]? = some (.cells cs E) := by
              simp [World.alloc, World.drew, -World.alloc_eq, -World.drew_eq]
            refine ⟨.slice (some ⟨w.heap.size, 0, none⟩) (runesS l).length (grownCap w (runesS l).length 0 E), w.drew.alloc (.cells cs E), C2, ?_, ?_⟩
            · simp only [execOp, ho, hxr, Sem.run_bind, hrun]
              rfl
            · rw [hdst]
              have hlc : ((runesS l).map (AV.int .i32)).length = (runesS l).length := List.length_map ..
              refine hc2.put hn (.inr (.inr ⟨rfl, w.heap.size, 0, 0, grownCap w (runesS l).length 0 E, (runesS l).map (Value.int .i32), ho2, .inl (by simp), by rw [hlc], by rw [hlc]; exact hcap, ?_, row_runes _, ?_⟩))
              · intro j v hj
                rw [Nat.zero_add]
                simp only [World.cell?, hat]
                have hj' : j < ((runesS l).map (Value.int .i32)).length := (List.getElem?_eq_some_iff.1 hj).1
                rw [← hobj, Array.getElem?_append_left (by simpa using hj')]
                simpa using hj
              · refine ⟨_, E, _, _, hat, ?_, fun o ho => by omega, by omega⟩
                rw [← hobj]
                simp
                omega
          · cases hS
        · cases h
      · cases h
    · cases h
end Go.VS
