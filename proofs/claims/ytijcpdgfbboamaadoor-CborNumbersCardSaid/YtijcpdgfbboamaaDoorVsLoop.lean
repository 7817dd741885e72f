/- Part of a framework that states what Go functions answer on values as data; it holds for every program of the model. -/
import Derived.Test.YtijcpdgfbboamaaDoorVsEval3
namespace Go.VS
set_option linter.unusedVariables false
set_option linter.unusedSimpArgs false
set_option linter.unusedSectionVars false
open Go
variable {P : Program}

/-- A loop, with what holds at each round's head and a number that goes down. -/
theorem AWP.loopI {X : Ent} {c : Code} {Q : Exit → St → Prop} {st : St} (I : Nat → St → Prop) (n : Nat) (h0 : I n st)
    (round : ∀ n s, I n s → AWP P X c (thenS (fun s' => ∃ m, m < n ∧ I m s') Q) s) : AWP P X (.loop c) Q st := by
  have key : ∀ n (s : St), I n s → ∀ (C : Ctx) (a : Act) (w : World), Conc X s C a w → ∀ (b : Frame) (k : List Item) (cs : List Frame),
      ∃ e a' w', (∃ st' C', Q e st' ∧ Conc X st' C' a' w') ∧ Arrives P (lone (b.at a (.code c :: .inLoop c :: k)) cs w) b k cs e a' w' := by
    intro n
    induction n using Nat.strongRecOn with
    | _ n ih =>
      intro s hI C a w hc b k cs
      obtain ⟨e, a1, w1, ⟨s1, C1, hq, hc1⟩, harr⟩ := round n s hI C a w hc b (.inLoop c :: k) cs
      cases e with
      | normal =>
        obtain ⟨m, hlt, hI1⟩ := hq
        obtain ⟨e2, a2, w2, hq2, harr2⟩ := ih m hlt s1 hI1 C1 a1 w1 hc1 b k cs
        exact ⟨e2, a2, w2, hq2, .of_steps (Steps.trans harr (.one step_inLoop)) harr2⟩
      | exit id => exact ⟨_, a1, w1, ⟨s1, C1, hq, hc1⟩, .pass (x := .inLoop c) rfl (fun _ _ => .inl (by simp)) harr⟩
      | goto l => exact ⟨_, a1, w1, ⟨s1, C1, hq, hc1⟩, .pass (x := .inLoop c) rfl (fun _ _ => .inl (by simp)) harr⟩
      | ret => exact ⟨_, a1, w1, ⟨s1, C1, hq, hc1⟩, .pass (x := .inLoop c) rfl (fun _ _ => .inl (by simp)) harr⟩
      | panic ch => exact ⟨_, a1, w1, ⟨s1, C1, hq, hc1⟩, .pass (x := .inLoop c) rfl (fun _ _ => .inl (by simp)) harr⟩
      | outgrown => exact ⟨_, a1, w1, ⟨s1, C1, hq, hc1⟩, .pass (x := .inLoop c) rfl (fun _ _ => .inl (by simp)) harr⟩
  intro C a w hc b k cs
  obtain ⟨e, a', w', hq, harr⟩ := key _ st h0 C a w hc b k cs
  exact ⟨e, a', w', hq, .of_steps (.one step_loop) harr⟩

/-- A loop of at most so many rounds. -/
def LoopN (P : Program) (X : Ent) (c : Code) (Q : Exit → St → Prop) : Nat → St → Prop
  | 0, _ => False
  | n + 1, st => AWP P X c (thenS (LoopN P X c Q n) Q) st

theorem LoopN.succ {X : Ent} {c : Code} {Q : Exit → St → Prop} {n : Nat} {st : St} (h : AWP P X c (thenS (LoopN P X c Q n) Q) st) : LoopN P X c Q (n + 1) st := h

theorem AWP.unroll {X : Ent} {c : Code} {Q : Exit → St → Prop} {st : St} (n : Nat) (h : LoopN P X c Q n st) : AWP P X (.loop c) Q st := by
  refine AWP.loopI (LoopN P X c Q) n h fun n s hs => ?_
  cases n with
  | zero => exact hs.elim
  | succ n =>
    refine AWP.mono hs fun e s' h' => ?_
    cases e with
    | normal => exact ⟨n, Nat.lt_succ_self n, h'⟩
    | _ => exact h'

theorem AWP.loopT {X : Ent} {c y : Code} {Q : Exit → St → Prop} {st : St} (n : Nat) (h : LoopN P X c (thenS (AWP P X y Q) Q) n st) : AWP P X (.seq (.loop c) y) Q st := AWP.seq (AWP.unroll n h)

theorem take_drop_len {α : Type} (l : List α) (i : Nat) : (l.drop i).take (l.length - i) = l.drop i := by
  rw [← List.length_drop, List.take_length]
theorem take_len {α : Type} (l : List α) : l.take l.length = l := List.take_length

/-- A slice that is nil may bear an unused name. -/
theorem Conc.adopt {X : Ent} {st : St} {C : Ctx} {a : Act} {w : World} (h : Conc X st C a w) {k sz sz' : Nat} {g : Stamp} {eo : Nat} (hk : st.s k = .sl none true sz []) :
    Conc X (st.put k (.sl (some (g, eo)) true sz' [])) C a w where
  n := h.n
  slots t := by
    by_cases e : t = k
    · subst e
      have := h.slots t
      rw [hk] at this
      simp only [St.put, upd_same]
      rcases this with ⟨_, _, h2⟩ | ⟨h2, _⟩
      · exact .inr (.inl ⟨rfl, rfl, h2⟩)
      · cases h2
    · simp only [St.put, upd_ne _ _ e]; exact h.slots t
  defers := h.defers
  boxes := h.boxes
  boxSome := h.boxSome
  mem := h.mem
  cons := h.cons
  made := h.made
  tg := h.tg
  tgInj := h.tgInj
  tgMade := h.tgMade

theorem AWP.adopt {X : Ent} {c : Code} {Q : Exit → St → Prop} {st : St} (k : Nat) (g : Stamp) (eo sz' : Nat) {sz : Nat} (hk : st.s k = .sl none true sz []) (h : AWP P X c Q (st.put k (.sl (some (g, eo)) true sz' []))) :
    AWP P X c Q st := AWP.weaken h fun C _ _ hc => ⟨C, hc.adopt hk⟩

/-- Slots of which no more is known. -/
theorem AWP.forget {X : Ent} {c : Code} {Q : Exit → St → Prop} {st : St} (ks : List Nat) (h : AWP P X c Q (norm ks st)) : AWP P X c Q st := AWP.weaken h fun _ _ _ hc => hc.norm ks

def setB : List (Nat × List AV) → Nat → List AV → List (Nat × List AV)
  | [], k, v => [(k, v)]
  | (k', w) :: B, k, v => if k = k' then (k, v) :: B else (k', w) :: setB B k v
theorem lkB_setB : ∀ (B : List (Nat × List AV)) (k : Nat) (v : List AV) (t : Nat), lkB (setB B k v) t = if t = k then some v else lkB B t
  | [], k, v, t => rfl
  | (k', w) :: B, k, v, t => by
    simp only [setB]
    by_cases e : k = k'
    · rw [if_pos e]
      subst e
      simp only [lkB]
      by_cases e2 : t = k <;> simp [e2]
    · rw [if_neg e]
      simp only [lkB, lkB_setB B k v t]
      by_cases e2 : t = k'
      · have : t ≠ k := fun x => e (x ▸ e2)
        simp [e2, this, Ne.symm e]
      · simp [e2]
theorem upd_lkB' (L : List (Nat × List AV)) (k : Nat) (v : List AV) : upd (lkB L) k (some v) = lkB (setB L k v) := by
  funext t
  rw [lkB_setB]
  rfl
theorem mx_none (p : Nat → Prop) : (∀ k, k ∈ (none : Option Nat) → p k) = True := by simp
theorem mx_some (m : Nat) (p : Nat → Prop) : (∀ k, k ∈ some m → p k) = p m := by simp
theorem byte_i64 (c : UInt8) : IntKind.wrap .i64 (c.toNat : Int) = c.toNat := by
  have := c.toNat_lt
  exact Go.IntWalk.i64_in _ (by omega)
theorem byte_u64 (c : UInt8) : IntKind.wrap .u64 (c.toNat : Int) = c.toNat := by
  have := c.toNat_lt
  exact Go.IntWalk.u64_in _ (by omega)
theorem byte_u8 (c : UInt8) : IntKind.wrap .u8 (c.toNat : Int) = c.toNat := by
  have := c.toNat_lt
  exact Go.IntWalk.u8_in _ (by omega)
theorem callP_intro2 {st : St} {d : Option Nat} {f : FuncId} {as : List AV} {r : AV} {K : St → Prop} (h : CallsP P f (as.map froz) r) (hk : optP (callSt st d as r) K) : callP P st d f as K :=
  ⟨r, h, hk⟩

def mapK (F : AV → AV) : List (Nat × AV) → List (Nat × AV)
  | [] => []
  | (k, v) :: L => (k, F v) :: mapK F L
def mapKB (F : List AV → List AV) : List (Nat × List AV) → List (Nat × List AV)
  | [] => []
  | (k, v) :: L => (k, F v) :: mapKB F L
theorem lk_mapK (F : AV → AV) (hF : F .undef = .undef) : ∀ (L : List (Nat × AV)) (t : Nat), lk (mapK F L) t = F (lk L t)
  | [], t => hF.symm
  | (k, v) :: L, t => by
    simp only [mapK, lk, lk_mapK F hF L t]
    split <;> rfl
theorem lkB_mapKB (F : List AV → List AV) : ∀ (L : List (Nat × List AV)) (t : Nat), lkB (mapKB F L) t = (lkB L t).map F
  | [], t => rfl
  | (k, v) :: L, t => by
    simp only [mapKB, lkB, lkB_mapKB F L t]
    split <;> rfl
theorem setE_mk (L : List (Nat × AV)) (B : List (Nat × List AV)) (c f : Stamp → Bool) (m : Nat → Bool) (r : Nat → Option Stamp) (g : Stamp) (sz k : Nat) (e : AV) :
    (St.mk (lk L) (lkB B) c f m r).setE g sz k e = St.mk (lk (mapK (setA g sz k e) L)) (lkB (mapKB (setL g sz k e) B)) c f m r := by
  unfold St.setE
  congr 1
  · funext t; rw [lk_mapK _ rfl]
  · funext t; rw [lkB_mapKB]
theorem map_snoc {α : Type} (f : α → AV) (l : List α) (a : α) : l.map f ++ [f a] = (l ++ [a]).map f := by simp
end Go.VS
