/- Part of a framework that states what Go functions answer on values as data; it holds for every program of the model. -/
import Derived.Test.YtedjcbdhafmjiaaVsLent
namespace Go.VS
set_option linter.unusedVariables false
set_option linter.unusedSimpArgs false
set_option linter.unusedSectionVars false
open Go
variable {P : Program}

/-! ### A call that lends boxes -/

/-- The world has gone on, the boxes with it. -/
theorem Conc.turn {X : Ent} {st : St} {C C' : Ctx} {a : Act} {w w' : World} {bx' : Nat → Option (List AV)} (h : Conc X st C a w) (t : C.To w w' C') (ho : C'.own = C.own) (m : MemOk X st.frz C' w')
    (hb : ∀ id cs, bx' id = some cs → BoxAt w' C' id cs) (hs : ∀ id b, C'.box id = some b → (bx' id).isSome = true) : Conc X { st with bx := bx' } C' a w' where
  n := h.n
  slots k := Rep.to t _ _ (h.slots k)
  defers := h.defers
  boxes := hb
  boxSome := hs
  mem := m
  cons g := by rw [ho]; exact h.cons g
  made d hd := h.made d (by rw [← ho]; exact hd)
  tg := h.tg
  tgInj := h.tgInj
  tgMade := h.tgMade

def St.killL (st : St) : List Stamp → St
  | [] => st
  | g :: gs => ({ st with cons := updS st.cons g true } : St).killL gs

theorem killL_same : ∀ (gs : List Stamp) (st : St), (st.killL gs).s = st.s ∧ (st.killL gs).bx = st.bx ∧ (st.killL gs).frz = st.frz ∧ (st.killL gs).made = st.made ∧ (st.killL gs).res = st.res
  | [], _ => ⟨rfl, rfl, rfl, rfl, rfl⟩
  | g :: gs, st => killL_same gs _
theorem killL_cons : ∀ (gs : List Stamp) (st : St) (g : Stamp), (st.killL gs).cons g = true ↔ g ∈ gs ∨ st.cons g = true
  | [], st, g => by simp [St.killL]
  | k :: gs, st, g => by
    rw [St.killL, killL_cons gs]
    simp only [updS, List.mem_cons]
    by_cases e : g = k
    · simp [e]
    · simp [e]

theorem Conc.killL {X : Ent} {a : Act} {w : World} : ∀ (gs : List Stamp) {st : St} {C : Ctx}, Conc X st C a w → (∀ g ∈ gs, g.1 = 1 → st.made g.2 = true) →
    ∃ C', Conc X (st.killL gs) C' a w ∧ C'.Sh = C.Sh ∧ C'.box = C.box ∧ (∀ g ∈ gs, C'.own g = .dead) ∧ (∀ g, g ∉ gs → C'.own g = C.own g)
  | [], st, C, h, _ => ⟨C, h, rfl, rfl, by simp, fun _ _ => rfl⟩
  | g :: gs, st, C, h, hm => by
    obtain ⟨C1, q1, q2, q3, q4, q5⟩ := Conc.killL gs (h.kill g (hm g (by simp))) (fun x hx => hm x (by simp [hx]))
    refine ⟨C1, q1, q2, q3, fun x hx => ?_, fun x hx => ?_⟩
    · by_cases e : x ∈ gs
      · exact q4 x e
      · have : x = g := by simpa [e] using hx
        rw [q5 x e, this]; simp [updO]
    · have e : x ∉ gs := fun h => hx (by simp [h])
      have e2 : x ≠ g := fun h => hx (by simp [h])
      rw [q5 x e]; simp [updO, e2]

theorem freezeL_not : ∀ (gs : List Stamp) (st : St) (x : Stamp), st.frz x = false → x ∉ gs → (st.freezeL gs).frz x = false
  | [], _, _, h, _ => h
  | g :: gs, st, x, h, hx => by
    refine freezeL_not gs _ x ?_ (fun h => hx (by simp [h]))
    have : x ≠ g := fun e => hx (by simp [e])
    simp [updS, this, h]

/-- New names with targets. -/
def St.newsT (st : St) : List (Nat × Stamp) → St
  | [] => st
  | (k, t) :: l => ({ st with made := upd st.made k true, res := upd st.res k (some t) } : St).newsT l

theorem newsT_same : ∀ (l : List (Nat × Stamp)) (st : St), (st.newsT l).s = st.s ∧ (st.newsT l).bx = st.bx ∧ (st.newsT l).frz = st.frz ∧ (st.newsT l).cons = st.cons
  | [], _ => ⟨rfl, rfl, rfl, rfl⟩
  | (k, t) :: l, st => newsT_same l _

theorem Conc.newsT {X : Ent} {a : Act} {w : World} : ∀ (l : List (Nat × Own × Stamp)) {st : St} {C : Ctx}, Conc X st C a w → (l.map (·.1)).Nodup →
    (∀ t ∈ l, st.made t.1 = false ∧ st.frz (1, t.1) = false ∧ t.2.1 ≠ .dead ∧ st.cons t.2.2 = true ∧ t.2.2.1 ≠ 1 ∧ ∀ k, st.cons (1, k) = false → st.res k = some t.2.2 → False) →
    (∀ t ∈ l, ∀ b base, t.2.1 = .live b base → b < w.heap.size ∧ X.mine b ∧ ¬ C.Sh b ∧ (∀ id, C.box id ≠ some b) ∧ ∀ g bs, C.own g ≠ .live b bs) →
    (∀ t ∈ l, ∀ t' ∈ l, ∀ b base base', t.2.1 = .live b base → t'.2.1 = .live b base' → t.1 = t'.1) → (∀ t ∈ l, ∀ t' ∈ l, t.2.2 = t'.2.2 → t.1 = t'.1) →
    ∃ C', Conc X (st.newsT (l.map fun t => (t.1, t.2.2))) C' a w ∧ C.To w w C' ∧ C'.Sh = C.Sh ∧ C'.box = C.box ∧ (∀ t ∈ l, C'.own (1, t.1) = t.2.1) ∧ (∀ g, (∀ t ∈ l, g ≠ (1, t.1)) → C'.own g = C.own g)
  | [], st, C, h, _, _, _, _, _ => ⟨C, h, ⟨fun _ hb => ⟨hb, rfl⟩, fun _ _ hb => hb, fun _ => .inr (.inr ⟨rfl, fun _ _ _ => rfl⟩)⟩, rfl, rfl, by simp, fun _ _ => rfl⟩
  | (k, ow, t0) :: l, st, C, h, hnd, hcan, hblk, hdis, htd => by
    obtain ⟨c1, c2, c3, c4, c5, c6⟩ := hcan (k, ow, t0) (by simp)
    simp only at c1 c2 c3 c4 c5 c6
    simp only [List.map_cons, List.nodup_cons] at hnd
    have hnone : C.own (1, k) = .none := by
      cases e : C.own (1, k) with
      | none => rfl
      | dead => have := h.made k (by rw [e]; simp); rw [c1] at this; cases this
      | live b base => have := h.made k (by rw [e]; simp); rw [c1] at this; cases this
    have step : ∃ C1, Conc X { st with made := upd st.made k true, res := upd st.res k (some t0) } C1 a w ∧ C1.Sh = C.Sh ∧ C1.box = C.box ∧ C1.own (1, k) = ow ∧ (∀ g, g ≠ (1, k) → C1.own g = C.own g) := by
      cases how : ow with
      | dead => exact absurd how c3
      | none =>
        exact ⟨C, h.mark (d := k) (t0 := t0) c1 c4 c5 c6, rfl, rfl, hnone, fun _ _ => rfl⟩
      | live b base =>
        obtain ⟨p1, p2, p3, p4, p5⟩ := hblk (k, ow, t0) (by simp) b base how
        have h2 := h.ownNew (d := k) (b := b) (base := base) (t0 := t0) p1 p2 c1 c2 p3 p4 p5 c4 c5 c6
        exact ⟨_, h2, rfl, rfl, by simp [updO], fun g e => by simp [updO, e]⟩
    obtain ⟨C1, q1, q3, q4, q5, q6⟩ := step
    have hne : ∀ t ∈ l, t.1 ≠ k := fun t ht e => hnd.1 (by rw [← e]; exact List.mem_map_of_mem ht)
    obtain ⟨C2, r1, _, r3, r4, r5, r6⟩ := Conc.newsT l q1 hnd.2
      (fun t ht => by
        obtain ⟨d1, d2, d3, d4, d5, d6⟩ := hcan t (by simp [ht])
        refine ⟨by simp only [upd_ne _ _ (hne t ht)]; exact d1, d2, d3, d4, d5, fun j hj hr => ?_⟩
        by_cases e : j = k
        · subst e
          simp at hr
          exact hne t ht (htd t (by simp [ht]) (j, ow, t0) (by simp) hr.symm)
        · simp only [upd_ne _ _ e] at hr
          exact d6 j hj hr)
      (fun t ht b base hb => by
        obtain ⟨p1, p2, p3, p4, p5⟩ := hblk t (by simp [ht]) b base hb
        refine ⟨p1, p2, by rw [q3]; exact p3, by rw [q4]; exact p4, fun g bs hg => ?_⟩
        by_cases e1 : g = (1, k)
        · subst e1
          rw [q5] at hg
          exact hne t ht (hdis t (by simp [ht]) (k, ow, t0) (by simp) b base bs hb hg)
        · rw [q6 g e1] at hg; exact p5 g bs hg)
      (fun t ht t' ht' => hdis t (by simp [ht]) t' (by simp [ht']))
      (fun t ht t' ht' => htd t (by simp [ht]) t' (by simp [ht']))
    have own1 : ∀ t ∈ (k, ow, t0) :: l, C2.own (1, t.1) = t.2.1 := by
      intro t ht
      rcases List.mem_cons.1 ht with rfl | ht
      · exact (r6 (1, k) (fun t ht e => hne t ht (by simpa using e.symm))).trans q5
      · exact r5 t ht
    have own2 : ∀ g, (∀ t ∈ (k, ow, t0) :: l, g ≠ (1, t.1)) → C2.own g = C.own g := fun g hg =>
      (r6 g (fun t ht => hg t (by simp [ht]))).trans (q6 g (hg (k, ow, t0) (by simp)))
    refine ⟨C2, r1, ⟨fun b hb => ⟨by rw [r3, q3]; exact hb, rfl⟩, fun id b hb => by rw [r4, q4]; exact hb, fun g => ?_⟩, r3.trans q3, r4.trans q4, own1, own2⟩
    by_cases e : ∃ t ∈ (k, ow, t0) :: l, g = (1, t.1)
    · obtain ⟨t, ht, rfl⟩ := e
      left
      have hm := (hcan t ht).1
      cases e : C.own (1, t.1) with
      | none => rfl
      | dead => have := h.made t.1 (by rw [e]; simp); rw [hm] at this; cases this
      | live b base => have := h.made t.1 (by rw [e]; simp); rw [hm] at this; cases this
    · exact .inr (.inr ⟨own2 g (fun t ht e2 => e ⟨t, ht, e2⟩), fun _ _ _ => rfl⟩)

/-! ### What is lent, and what comes back -/

mutual
def ptrsA : AV → List Nat
  | .ptr id _ => [id]
  | .bsl id .. => [id]
  | .agg cs => ptrsL cs
  | .tup cs => ptrsL cs
  | .fn _ cs => ptrsL cs
  | _ => []
def ptrsL : List AV → List Nat
  | [] => []
  | c :: cs => ptrsA c ++ ptrsL cs
end
def addN : List Nat → List Nat → List Nat
  | l, [] => l
  | l, k :: ks => addN (if hasN l k = true then l else l ++ [k]) ks
def inBoxes (st : St) : List Nat → List Nat
  | [] => []
  | i :: is => (match st.bx i with | some cs => ptrsL cs | none => []) ++ inBoxes st is
def reach (st : St) : Nat → List Nat → List Nat
  | 0, ids => ids
  | n + 1, ids => reach st n (addN ids (inBoxes st ids))

structure Lent where
  args : List AV
  bs : List (List AV)
  ids : List Nat
  gs : List Stamp

def lendSt (st : St) (as : List AV) (ids : List Nat) : Option Lent :=
  (boxesOf st ids).bind fun css =>
    need (nodupN ids = true ∧ (as.all fun a => okB ids a && (stA (froz a)).isEmpty && (stampsOf a).all fun g => !st.cons g && !hasS (stALL css) g) = true ∧ okBLL ids css = true ∧ nodupS (stALL css) = true ∧
        ((stALL css).all fun g => !st.cons g && !st.frz g && (g.1 != 1 || st.made g.2)) = true)
      (some ⟨as.map fun a => rnB 4 [] ids (froz a), rnBLL 4 (stALL css) ids css, ids, stALL css⟩)

def posLL : List (List AV) → List Nat
  | [] => []
  | c :: cs => posL c ++ posLL cs
def ansBLL (m : Nat) : List (List AV) → Bool
  | [] => true
  | c :: cs => ansBL m c && ansBLL m cs
def setBs (kd : Nat) (bids : List Nat) : List Nat → List (List AV) → (Nat → Option (List AV)) → Nat → Option (List AV)
  | i :: is, c :: cs, f => setBs kd bids is cs (upd f i (some (backL kd bids c)))
  | _, _, f => f

/-- The base of the names that come of a call. -/
def baseOf (st : St) (d : Option Nat) : Nat :=
  match d with
  | some d => d
  | none => if st.made (nm 900000 0) = true then (if st.made (nm 900001 0) = true then 900002 else 900001) else 900000

/-- A name's target: the name that was lent at its place, or a new one. -/
def tgt (st : St) (gs : List Stamp) (kd p : Nat) : Stamp :=
  match gs[p]? with
  | some g => st.tname g
  | none => (0, nm kd p)

def backSt (st : St) (d : Option Nat) (as : List AV) (ids : List Nat) (gs : List Stamp) (r : AV) (bs' : List (List AV)) : Option St :=
  let kd := baseOf st d
  let bids := ids ++ bxIds (100000 + 10 * kd) (bs'.length - ids.length)
  let ps := posLL bs' ++ posOf r
  let st0 := st.freezeL (as.flatMap stampsOf)
  let st1 := st0.killL (gs ++ ((ps.filter fun p => decide (gs.length ≤ p)).map fun p => (0, nm kd p)))
  need (ids.length ≤ bs'.length ∧ ((bxIds (100000 + 10 * kd) (bs'.length - ids.length)).all fun i => (st.bx i).isNone) = true ∧ ansB bs'.length r = true ∧ ansBLL bs'.length bs' = true ∧ nodupN ps = true ∧
      (ps.all fun p => !st.made (nm kd p) && !st0.frz (1, nm kd p) && (decide (p < gs.length) || (!st.cons (0, nm kd p) && !hasS gs (0, nm kd p)))) = true)
    (some (({ st1.newsT (ps.map fun p => (nm kd p, tgt st gs kd p)) with bx := setBs kd bids bids bs' st.bx } : St).putO d (backA kd bids r)))
end Go.VS
