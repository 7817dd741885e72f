/- Part of a framework that states what Go functions answer on values as data; it holds for every program of the model. -/
import Derived.Test.YtedjcbdhafmjiaaVsAny5
namespace Go.VS
set_option linter.unusedVariables false
set_option linter.unusedSimpArgs false
set_option linter.unusedSectionVars false
open Go
variable {P : Program}

/-! ### States that are written out -/

def lk : List (Nat × AV) → Nat → AV
  | [], _ => .undef
  | (k, v) :: L, t => if t = k then v else lk L t
def lkB : List (Nat × List AV) → Nat → Option (List AV)
  | [], _ => none
  | (k, v) :: L, t => if t = k then some v else lkB L t
def lkR : List (Nat × Stamp) → Nat → Option Stamp
  | [], _ => none
  | (k, v) :: L, t => if t = k then some v else lkR L t
def hasS : List Stamp → Stamp → Bool
  | [], _ => false
  | k :: L, t => if t = k then true else hasS L t
def hasN : List Nat → Nat → Bool
  | [], _ => false
  | k :: L, t => if t = k then true else hasN L t

theorem lk_nil (t : Nat) : lk [] t = .undef := rfl
theorem lk_cons (k : Nat) (v : AV) (L : List (Nat × AV)) (t : Nat) : lk ((k, v) :: L) t = if t = k then v else lk L t := rfl
theorem lkB_nil (t : Nat) : lkB [] t = none := rfl
theorem lkB_cons (k : Nat) (v : List AV) (L : List (Nat × List AV)) (t : Nat) : lkB ((k, v) :: L) t = if t = k then some v else lkB L t := rfl
theorem lkR_nil (t : Nat) : lkR [] t = none := rfl
theorem lkR_cons (k : Nat) (v : Stamp) (L : List (Nat × Stamp)) (t : Nat) : lkR ((k, v) :: L) t = if t = k then some v else lkR L t := rfl
theorem hasS_nil (t : Stamp) : hasS [] t = false := rfl
theorem hasS_cons (k : Stamp) (L : List Stamp) (t : Stamp) : hasS (k :: L) t = if t = k then true else hasS L t := rfl
theorem hasN_nil (t : Nat) : hasN [] t = false := rfl
theorem hasN_cons (k : Nat) (L : List Nat) (t : Nat) : hasN (k :: L) t = if t = k then true else hasN L t := rfl
theorem upd_lk (L : List (Nat × AV)) (k : Nat) (v : AV) : upd (lk L) k v = lk ((k, v) :: L) := rfl
theorem upd_lkB (L : List (Nat × List AV)) (k : Nat) (v : List AV) : upd (lkB L) k (some v) = lkB ((k, v) :: L) := rfl
theorem upd_lkR (L : List (Nat × Stamp)) (k : Nat) (v : Stamp) : upd (lkR L) k (some v) = lkR ((k, v) :: L) := rfl
theorem updS_hasS (L : List Stamp) (k : Stamp) : updS (hasS L) k true = hasS (k :: L) := rfl
theorem upd_hasN (L : List Nat) (k : Nat) : upd (hasN L) k true = hasN (k :: L) := rfl

theorem St.put_mk (s : Nat → AV) (b : Nat → Option (List AV)) (c f : Stamp → Bool) (m : Nat → Bool) (r : Nat → Option Stamp) (d : Nat) (v : AV) :
    (St.mk s b c f m r).put d v = St.mk (upd s d v) b c f m r := rfl
theorem St.putO_some (st : St) (d : Nat) (v : AV) : st.putO (some d) v = st.put d v := rfl
theorem St.putO_none (st : St) (v : AV) : st.putO none v = st := rfl
theorem St.mkNew_mk (s : Nat → AV) (b : Nat → Option (List AV)) (c f : Stamp → Bool) (m : Nat → Bool) (r : Nat → Option Stamp) (d : Nat) :
    (St.mk s b c f m r).mkNew d = St.mk s b (updS c (0, d) true) f (upd m d true) (upd r d (some (0, d))) := rfl
theorem St.eat_mk (s : Nat → AV) (b : Nat → Option (List AV)) (c f : Stamp → Bool) (m : Nat → Bool) (r : Nat → Option Stamp) (g : Stamp) (d : Nat) :
    (St.mk s b c f m r).eat g d = St.mk s b (updS c g true) f (upd m d true) (upd r d (some (if g.1 = 1 then (r g.2).getD (0, g.2) else g))) := rfl
theorem St.freezeL_nil (st : St) : st.freezeL [] = st := rfl
theorem St.freezeL_mk (s : Nat → AV) (b : Nat → Option (List AV)) (c f : Stamp → Bool) (m : Nat → Bool) (r : Nat → Option Stamp) (g : Stamp) (gs : List Stamp) :
    (St.mk s b c f m r).freezeL (g :: gs) = (St.mk s b c (updS f g true) m r).freezeL gs := rfl
theorem St.mkNews_nil (st : St) : st.mkNews [] = st := rfl
theorem St.mkNews_cons (st : St) (k : Nat) (ks : List Nat) : st.mkNews (k :: ks) = (st.mkNew k).mkNews ks := rfl
theorem St.canNew_mk (s : Nat → AV) (b : Nat → Option (List AV)) (c f : Stamp → Bool) (m : Nat → Bool) (r : Nat → Option Stamp) (d : Nat) :
    (St.mk s b c f m r).canNew d = (!m d && !f (1, d) && !c (0, d) && !c (1, d)) := rfl
theorem St.alive_none (st : St) : st.alive none = true := rfl
theorem St.alive_mk (s : Nat → AV) (b : Nat → Option (List AV)) (c f : Stamp → Bool) (m : Nat → Bool) (r : Nat → Option Stamp) (g : Stamp) (e : Nat) :
    (St.mk s b c f m r).alive (some (g, e)) = !c g := rfl

/-- Where a name goes at a region's end. -/
def fateL (c f : List Stamp) (m : List Nat) (r : List (Nat × Stamp)) (g : Stamp) : Fate :=
  if (hasS c g || (g.1 == 1 && !hasN m g.2)) = true then .gone else if hasS f g = true then .shared else .named (if g.1 = 1 then (lkR r g.2).getD (0, g.2) else g)

def pickL (F : Stamp → Fate) (L : List (Nat × AV)) : List Nat → List (Nat × AV)
  | [] => []
  | k :: ks => (k, thAV F (lk L k)) :: pickL F L ks
def mapB (F : Stamp → Fate) : List (Nat × List AV) → List (Nat × List AV)
  | [] => []
  | (k, v) :: L => (k, thL F v) :: mapB F L

theorem lk_pickL (F : Stamp → Fate) (L : List (Nat × AV)) : ∀ (ks : List Nat) (t : Nat), lk (pickL F L ks) t = if ks.contains t = true then thAV F (lk L t) else .undef
  | [], t => by simp [pickL, lk]
  | k :: ks, t => by
    simp only [pickL, lk, lk_pickL F L ks t]
    by_cases e : t = k
    · subst e; simp
    · simp [e]

theorem lkB_mapB (F : Stamp → Fate) : ∀ (L : List (Nat × List AV)) (t : Nat), lkB (mapB F L) t = (lkB L t).map (thL F)
  | [], t => rfl
  | (k, v) :: L, t => by
    simp only [mapB, lkB, lkB_mapB F L t]
    split <;> rfl

theorem norm_mk (ks : List Nat) (L : List (Nat × AV)) (B : List (Nat × List AV)) (c f : List Stamp) (m : List Nat) (r : List (Nat × Stamp)) :
    norm ks ⟨lk L, lkB B, hasS c, hasS f, hasN m, lkR r⟩ = ⟨lk (pickL (fateL c f m r) L ks), lkB (mapB (fateL c f m r) B), hasS [], hasS [], hasN [], lkR []⟩ := by
  unfold norm St.settle St.keep
  congr 1
  · funext t
    rw [lk_pickL]
    rfl
  · funext t
    rw [lkB_mapB]
    rfl

theorem fateL_named (k : Nat) : fateL [] [] [] [] (0, k) = .named (0, k) := rfl
theorem fateL_cons (c f : List Stamp) (m : List Nat) (r : List (Nat × Stamp)) (g : Stamp) :
    fateL c f m r g = if (hasS c g || (g.1 == 1 && !hasN m g.2)) = true then .gone else if hasS f g = true then .shared else .named (if g.1 = 1 then (lkR r g.2).getD (0, g.2) else g) := rfl

/-! ### Answers that are conditions -/

def optP {α : Type} (x : Option α) (K : α → Prop) : Prop :=
  match x with
  | some a => K a
  | none => False

theorem optP_some {α : Type} (a : α) (K : α → Prop) : optP (some a) K = K a := rfl
theorem optP_none {α : Type} (K : α → Prop) : optP none K = False := rfl
theorem optP_need {α : Type} (c : Prop) [Decidable c] (x : Option α) (K : α → Prop) : optP (need c x) K = (c ∧ optP x K) := by
  unfold need
  by_cases h : c <;> simp [h, optP]
theorem optP_bind {α β : Type} (x : Option α) (f : α → Option β) (K : β → Prop) : optP (x.bind f) K = optP x fun a => optP (f a) K := by
  cases x <;> rfl
theorem optP_map {α β : Type} (x : Option α) (f : α → β) (K : β → Prop) : optP (x.map f) K = optP x fun a => K (f a) := by
  cases x <;> rfl

/-- A call: its contract, and what comes behind it. -/
def callP (P : Program) (st : St) (d : Option Nat) (f : FuncId) (as : List AV) (K : St → Prop) : Prop :=
  ∃ r, CallsP P f (as.map froz) r ∧ optP (callSt st d as r) K

theorem vop_eq (n : Nat) (st : St) (o : Oper) (K : St → Prop) :
    vop P n st o K = optP (vstep P n st o) fun x => match x with | .inl s => K s | .inr fa => callP P st o.dst fa.1 fa.2 K := by
  unfold vop callP optP
  cases vstep P n st o with
  | none => rfl
  | some x =>
    cases x with
    | inl s => rfl
    | inr fa =>
      simp only
      congr 1
      funext r
      congr 1
      cases callSt st o.dst fa.2 r <;> rfl

/-- What is quiet puts its value. -/
theorem vop_quiet (n : Nat) (st : St) (o : Oper) (K : St → Prop) (hq : quiet P o = true) :
    vop P n st o K = (St.fits n o.dst = true ∧ optP (pv P st o) fun v => K (st.putO o.dst v)) := by
  have h := vguard_quiet (P := P) (n := n) (ops := #[]) (st := st) (o := { o with guard := none }) (by exact hq) (K := K)
  have e1 : vguard n #[] st { o with guard := none } (vop P n st { o with guard := none }) K = vop P n st o K := rfl
  have e2 : ∀ v, jres P #[] st { o with guard := none } = some v ↔ pv P st o = some v := fun v => Iff.rfl
  rw [e1] at h
  apply propext
  rw [h]
  constructor
  · rintro ⟨v, h1, h2, h3⟩
    have h1 : pv P st o = some v := h1
    rw [h1]; exact ⟨h2, h3⟩
  · rintro ⟨h2, h3⟩
    cases e : pv P st o with
    | none => rw [e] at h3; exact h3.elim
    | some v => rw [e] at h3; exact ⟨v, e, h2, h3⟩
end Go.VS
