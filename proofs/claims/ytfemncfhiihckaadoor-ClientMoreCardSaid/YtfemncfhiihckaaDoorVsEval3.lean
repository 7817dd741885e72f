/- Part of a framework that states what Go functions answer on values as data; it holds for every program of the model. -/
import Derived.Test.YtfemncfhiihckaaDoorVsAny5
import Derived.IntWalk
namespace Go.VS
set_option linter.unusedVariables false
set_option linter.unusedSimpArgs false
set_option linter.unusedSectionVars false
open Go
variable {P : Program}
def lk : List (Nat × AV) → Nat → AV
  | [], _ => .undef
  | (k, v) :: L, t => if t = k then v else lk L t
def lkB : List (Nat × List AV) → Nat → Option (List AV)
  | [], _ => none
  | (k, v) :: L, t => if t = k then some v else lkB L t
def lkR : List (Nat × Stamp) → Nat → Option Stamp
  | [], _ => none
  | (k, v) :: L, t => if t = k then some v else lkR L t
def hasS : List Stamp → Stamp → Bool
  | [], _ => false
  | k :: L, t => if t = k then true else hasS L t
def hasN : List Nat → Nat → Bool
  | [], _ => false
  | k :: L, t => if t = k then true else hasN L t
theorem lk_nil (t : Nat) : lk [] t = .undef := rfl
theorem lk_cons (k : Nat) (v : AV) (L : List (Nat × AV)) (t : Nat) : lk ((k, v) :: L) t = if t = k then v else lk L t := rfl
theorem lkB_nil (t : Nat) : lkB [] t = none := rfl
theorem lkB_cons (k : Nat) (v : List AV) (L : List (Nat × List AV)) (t : Nat) : lkB ((k, v) :: L) t = if t = k then some v else lkB L t := rfl
theorem lkR_nil (t : Nat) : lkR [] t = none := rfl
theorem lkR_cons (k : Nat) (v : Stamp) (L : List (Nat × Stamp)) (t : Nat) : lkR ((k, v) :: L) t = if t = k then some v else lkR L t := rfl
theorem hasS_nil (t : Stamp) : hasS [] t = false := rfl
theorem hasS_cons (k : Stamp) (L : List Stamp) (t : Stamp) : hasS (k :: L) t = if t = k then true else hasS L t := rfl
theorem hasN_nil (t : Nat) : hasN [] t = false := rfl
theorem hasN_cons (k : Nat) (L : List Nat) (t : Nat) : hasN (k :: L) t = if t = k then true else hasN L t := rfl
theorem upd_lk (L : List (Nat × AV)) (k : Nat) (v : AV) : upd (lk L) k v = lk ((k, v) :: L) := rfl
theorem upd_lkR (L : List (Nat × Stamp)) (k : Nat) (v : Stamp) : upd (lkR L) k (some v) = lkR ((k, v) :: L) := rfl
theorem updS_hasS (L : List Stamp) (k : Stamp) : updS (hasS L) k true = hasS (k :: L) := rfl
theorem upd_hasN (L : List Nat) (k : Nat) : upd (hasN L) k true = hasN (k :: L) := rfl
theorem St.put_mk (s : Nat → AV) (b : Nat → Option (List AV)) (c f : Stamp → Bool) (m : Nat → Bool) (r : Nat → Option Stamp) (d : Nat) (v : AV) :
    (St.mk s b c f m r).put d v = St.mk (upd s d v) b c f m r := rfl
theorem St.putO_some (st : St) (d : Nat) (v : AV) : st.putO (some d) v = st.put d v := rfl
theorem St.putO_none (st : St) (v : AV) : st.putO none v = st := rfl
theorem St.mkNew_mk (s : Nat → AV) (b : Nat → Option (List AV)) (c f : Stamp → Bool) (m : Nat → Bool) (r : Nat → Option Stamp) (d : Nat) :
    (St.mk s b c f m r).mkNew d = St.mk s b (updS c (0, d) true) f (upd m d true) (upd r d (some (0, d))) := rfl
theorem St.eat_mk (s : Nat → AV) (b : Nat → Option (List AV)) (c f : Stamp → Bool) (m : Nat → Bool) (r : Nat → Option Stamp) (g : Stamp) (d : Nat) :
    (St.mk s b c f m r).eat g d = St.mk s b (updS c g true) f (upd m d true) (upd r d (some (if g.1 = 1 then (r g.2).getD (0, g.2) else g))) := rfl
theorem St.freezeL_nil (st : St) : st.freezeL [] = st := rfl
theorem St.freezeL_mk (s : Nat → AV) (b : Nat → Option (List AV)) (c f : Stamp → Bool) (m : Nat → Bool) (r : Nat → Option Stamp) (g : Stamp) (gs : List Stamp) :
    (St.mk s b c f m r).freezeL (g :: gs) = (St.mk s b c (updS f g true) m r).freezeL gs := rfl
theorem St.mkNews_nil (st : St) : st.mkNews [] = st := rfl
theorem St.mkNews_cons (st : St) (k : Nat) (ks : List Nat) : st.mkNews (k :: ks) = (st.mkNew k).mkNews ks := rfl
theorem St.canNew_mk (s : Nat → AV) (b : Nat → Option (List AV)) (c f : Stamp → Bool) (m : Nat → Bool) (r : Nat → Option Stamp) (d : Nat) :
    (St.mk s b c f m r).canNew d = (!m d && !f (1, d) && !c (0, d) && !c (1, d)) := rfl
theorem St.alive_none (st : St) : st.alive none = true := rfl
theorem St.alive_mk (s : Nat → AV) (b : Nat → Option (List AV)) (c f : Stamp → Bool) (m : Nat → Bool) (r : Nat → Option Stamp) (g : Stamp) (e : Nat) :
    (St.mk s b c f m r).alive (some (g, e)) = !c g := rfl
/-- Where a name goes at a region's end. -/
def fateL (c f : List Stamp) (m : List Nat) (r : List (Nat × Stamp)) (g : Stamp) : Fate :=
  if (hasS c g || (g.1 == 1 && !hasN m g.2)) = true then .gone else if hasS f g = true then .shared else .named (if g.1 = 1 then (lkR r g.2).getD (0, g.2) else g)
def pickL (F : Stamp → Fate) (L : List (Nat × AV)) : List Nat → List (Nat × AV)
  | [] => []
  | k :: ks => (k, thAV F (lk L k)) :: pickL F L ks
def mapB (F : Stamp → Fate) : List (Nat × List AV) → List (Nat × List AV)
  | [] => []
  | (k, v) :: L => (k, thL F v) :: mapB F L
theorem lk_pickL (F : Stamp → Fate) (L : List (Nat × AV)) : ∀ (ks : List Nat) (t : Nat), lk (pickL F L ks) t = if ks.contains t = true then thAV F (lk L t) else .undef
  | [], t => by simp [pickL, lk]
  | k :: ks, t => by
    simp only [pickL, lk, lk_pickL F L ks t]
    by_cases e : t = k
    · subst e; simp
    · simp [e]
theorem lkB_mapB (F : Stamp → Fate) : ∀ (L : List (Nat × List AV)) (t : Nat), lkB (mapB F L) t = (lkB L t).map (thL F)
  | [], t => rfl
  | (k, v) :: L, t => by
    simp only [mapB, lkB, lkB_mapB F L t]
    split <;> rfl
theorem norm_mk (ks : List Nat) (L : List (Nat × AV)) (B : List (Nat × List AV)) (c f : List Stamp) (m : List Nat) (r : List (Nat × Stamp)) :
    norm ks ⟨lk L, lkB B, hasS c, hasS f, hasN m, lkR r⟩ = ⟨lk (pickL (fateL c f m r) L ks), lkB (mapB (fateL c f m r) B), hasS [], hasS [], hasN [], lkR []⟩ := by
  unfold norm St.settle St.keep
  congr 1
  · funext t
    rw [lk_pickL]
    rfl
  · funext t
    rw [lkB_mapB]
    rfl
theorem fateL_cons (c f : List Stamp) (m : List Nat) (r : List (Nat × Stamp)) (g : Stamp) :
    fateL c f m r g = if (hasS c g || (g.1 == 1 && !hasN m g.2)) = true then .gone else if hasS f g = true then .shared else .named (if g.1 = 1 then (lkR r g.2).getD (0, g.2) else g) := rfl
def optP {α : Type} (x : Option α) (K : α → Prop) : Prop :=
  match x with
  | some a => K a
  | none => False
theorem optP_some {α : Type} (a : α) (K : α → Prop) : optP (some a) K = K a := rfl
theorem optP_none {α : Type} (K : α → Prop) : optP none K = False := rfl
theorem optP_need {α : Type} (c : Prop) [Decidable c] (x : Option α) (K : α → Prop) : optP (need c x) K = (c ∧ optP x K) := by
  unfold need
  by_cases h : c <;> simp [h, optP]
theorem optP_bind {α β : Type} (x : Option α) (f : α → Option β) (K : β → Prop) : optP (x.bind f) K = optP x fun a => optP (f a) K := by
  cases x <;> rfl
theorem optP_map {α β : Type} (x : Option α) (f : α → β) (K : β → Prop) : optP (x.map f) K = optP x fun a => K (f a) := by
  cases x <;> rfl
/-- A call: its contract, and what comes behind it. -/
def callP (P : Program) (st : St) (d : Option Nat) (f : FuncId) (as : List AV) (K : St → Prop) : Prop :=
  ∃ r, CallsP P f (as.map froz) r ∧ optP (callSt st d as r) K
theorem vop_eq (n : Nat) (st : St) (o : Oper) (K : St → Prop) :
    vop P n st o K = optP (vstep P n st o) fun x => match x with | .inl s => K s | .inr fa => callP P st o.dst fa.1 fa.2 K := by
  unfold vop callP optP
  cases vstep P n st o with
  | none => rfl
  | some x =>
    cases x with
    | inl s => rfl
    | inr fa =>
      simp only
      congr 1
      funext r
      congr 1
      cases callSt st o.dst fa.2 r <;> rfl
end Go.VS
namespace Go.VS
set_option linter.unusedVariables false
set_option linter.unusedSimpArgs false
set_option linter.unusedSectionVars false
open Go
variable {P : Program}
/-- Operations picked by an order. -/
def pickO (ops : Array Oper) : List Nat → List Oper
  | [] => []
  | i :: is =>
    match ops[i]? with
    | some o => o :: pickO ops is
    | none => []
def inB (ops : Array Oper) (is : List Nat) : Bool := is.all fun i => decide (i < ops.size)
theorem vidx_pick {n : Nat} {ops : Array Oper} {K : St → Prop} : ∀ (is : List Nat) (st : St), inB ops is = true → vops P n ops (pickO ops is) st K → vidx P n ops is st K
  | [], st, _, h => h
  | i :: is, st, hb, h => by
    simp only [inB, List.all_cons, Bool.and_eq_true, decide_eq_true_eq] at hb
    have hi : ops[i]? = some ops[i] := Array.getElem?_eq_getElem hb.1
    simp only [pickO, hi] at h
    simp only [vidx, hi]
    exact vguard_mono (fun s hs => vidx_pick is s hb.2 hs) h
/-- Where a guard looks. -/
def guardSlot (ops : Array Oper) (j : Nat) : Option Nat := (ops[j]?).bind (·.dst)
theorem vguard_none {n : Nat} {ops : Array Oper} {st : St} {d : Option Tmp} {op : Op} {ty : TypeId} {pos : String} {af : Array Edge} {R : (St → Prop) → Prop} {K : St → Prop} :
    vguard n ops st ⟨d, op, ty, pos, af, none⟩ R K = R K := rfl
def guardP (n : Nat) (st : St) (d : Option Nat) (v : AV) (want : Bool) (R : (St → Prop) → Prop) (K : St → Prop) : Prop :=
  match v with
  | .bool b => (b = want → R K) ∧ (b ≠ want → St.fits n d = true ∧ K (st.putO d (.tup [])))
  | .tup [] => St.fits n d = true ∧ K (st.putO d (.tup []))
  | _ => False
theorem vguard_some {n : Nat} {ops : Array Oper} {st : St} {d : Option Tmp} {op : Op} {ty : TypeId} {pos : String} {af : Array Edge} {j : Nat} {want : Bool} {R : (St → Prop) → Prop} {K : St → Prop} :
    vguard n ops st ⟨d, op, ty, pos, af, some (j, want)⟩ R K = optP (guardSlot ops j) fun g => guardP n st d (st.s g) want R K := by
  unfold vguard optP guardSlot guardP
  simp only
  cases (ops[j]?).bind (·.dst) with
  | none => rfl
  | some g =>
    simp only
    cases hs : st.s g with
    | tup l => cases l <;> rfl
    | _ => rfl
/-- A condition. -/
def condP (v : AV) (x y : Prop) : Prop :=
  match v with
  | .bool b => (b = true → x) ∧ (b = false → y)
  | _ => False
theorem AWP.condP {X : Ent} {c : Operand} {x y : Code} {Q : Exit → St → Prop} {st : St} (h : VS.condP (st.ev P 0 c) (AWP P X x Q st) (AWP P X y Q st)) : AWP P X (.cond c x y) Q st := by
  unfold VS.condP at h
  split at h
  · rename_i b hb
    exact AWP.cond hb h.1 h.2
  · exact h.elim
/-- Code up to the next fork. -/
def VW (P : Program) (X : Ent) (ks : List Nat) : Code → (Exit → St → Prop) → St → Prop
  | .seq x y, Q, st => VW P X ks x (thenS (AWP P X y Q) Q) st
  | .region _ ops false, Q, st => vops P X.n ops ops.toList st fun s => Q .normal (norm ks s)
  | .cond c x y, Q, st => condP (st.ev P 0 c) (AWP P X x Q st) (AWP P X y Q st)
  | .block id c, Q, st => VW P X ks c (blockS id Q) st
  | .exit id, Q, st => Q (.exit id) st
  | .ret, Q, st => Q .ret st
  | .skip, Q, st => Q .normal st
  | .label _, Q, st => Q .normal st
  | c, Q, st => AWP P X c Q st
theorem VW.ok {X : Ent} (ks : List Nat) : ∀ (c : Code) {Q : Exit → St → Prop} {st : St}, VW P X ks c Q st → AWP P X c Q st := by
  intro c
  induction c with
  | seq x y ihx _ => exact fun h => AWP.seq (ihx h)
  | region id ops d =>
    cases d with
    | false => exact fun h => AWP.region h
    | true => exact fun h => h
  | cond c x y => exact fun h => AWP.condP h
  | block id c ih => exact fun h => AWP.block (ih h)
  | exit id => exact fun h => AWP.exit h
  | ret => exact fun h => AWP.ret h
  | skip => exact fun h => AWP.skip h
  | label l => exact fun h => AWP.label h
  | _ => exact fun h => h
theorem AWP.regionPick {X : Ent} (ks A is : List Nat) {id : Nat} {ops : Array Oper} {Q : Exit → St → Prop} {st : St} (hm : P.follows .mixedOrders = true) (ho : orderOk P ops A is = true)
    (hb : inB ops is = true) (h : vops P X.n ops (pickO ops is) st fun s => Q .normal (norm ks s)) : AWP P X (.region id ops true) Q st :=
  AWP.regionAny A is hm ho (vidx_pick is st hb h)
theorem entry0 : entry [] = ⟨lk [], lkB [], hasS [], hasS [], hasN [], lkR []⟩ := by
  unfold entry
  congr 1
theorem entry1 (a : AV) : entry [a] = ⟨lk [(0, a)], lkB [], hasS [], hasS [], hasN [], lkR []⟩ := by
  unfold entry
  congr 1
  funext t
  match t with
  | 0 => rfl
  | k + 1 => simp [lk]
theorem entry2 (a b : AV) : entry [a, b] = ⟨lk [(0, a), (1, b)], lkB [], hasS [], hasS [], hasN [], lkR []⟩ := by
  unfold entry
  congr 1
  funext t
  match t with
  | 0 => rfl
  | 1 => rfl
  | k + 2 => simp [lk]
theorem entry3 (a b c : AV) : entry [a, b, c] = ⟨lk [(0, a), (1, b), (2, c)], lkB [], hasS [], hasS [], hasN [], lkR []⟩ := by
  unfold entry
  congr 1
  funext t
  match t with
  | 0 => rfl
  | 1 => rfl
  | 2 => rfl
  | k + 3 => simp [lk]
theorem getElem?_map' {α : Type} [Inhabited α] (xs : List α) (f : α → AV) (i : Nat) : (xs.map f)[i]? = need (i < xs.length) (some (f (xs.getD i default))) := by
  unfold need
  rw [List.getElem?_map]
  by_cases h : i < xs.length
  · simp [h]
  · simp [h]
def nodupS : List Stamp → Bool
  | [] => true
  | g :: gs => !hasS gs g && nodupS gs
def posS : List Stamp → Stamp → Nat
  | [], _ => 0
  | k :: l, g => if g = k then 0 else posS l g + 1
theorem hasS_mem {l : List Stamp} {g : Stamp} : hasS l g = true ↔ g ∈ l := by
  induction l with
  | nil => simp [hasS]
  | cons k l ih =>
    simp only [hasS, List.mem_cons]
    split
    · simp [*]
    · simp [*]
theorem nodupS_ok : ∀ {l : List Stamp}, nodupS l = true → l.Nodup
  | [], _ => List.nodup_nil
  | g :: gs, h => by
    simp only [nodupS, Bool.and_eq_true, Bool.not_eq_true'] at h
    refine List.nodup_cons.2 ⟨fun hm => ?_, nodupS_ok h.2⟩
    rw [hasS_mem.2 hm] at h; cases h.1
theorem idxOf_posS : ∀ (l : List Stamp) (g : Stamp), l.idxOf g = posS l g
  | [], _ => rfl
  | k :: l, g => by
    simp only [posS, List.idxOf_cons, idxOf_posS l g]
    by_cases e : g = k
    · subst e; simp
    · have : (k == g) = false := by simpa using fun x => e x.symm
      rw [this, if_neg e]; rfl
theorem retS_of {st : St} {rs : List ResultVar} {r : AV} {e : Exit} (he : e = .ret ∨ e = .normal) (h : optP (retAV P st rs) fun v => closed v = true ∧ nodupS (stA v) = true ∧ ((stA v).all fun g => !st.cons g && !st.frz g) = true ∧ rnA (stA v) v = r) : retS P rs r e st := by
  unfold optP at h
  split at h
  · rename_i v hv
    obtain ⟨h1, h2, h3, h4⟩ := h
    have : ∃ v, retAV P st rs = some v ∧ retOk st v ∧ rnA (stA v) v = r := ⟨v, hv, ⟨h1, nodupS_ok h2, fun g hg => by simpa using List.all_eq_true.1 h3 g hg⟩, h4⟩
    rcases he with rfl | rfl <;> exact this
  · exact h.elim
theorem retS_ret {st : St} {rs : List ResultVar} {r : AV} (h : optP (retAV P st rs) fun v => closed v = true ∧ nodupS (stA v) = true ∧ ((stA v).all fun g => !st.cons g && !st.frz g) = true ∧ rnA (stA v) v = r) : retS P rs r .ret st :=
  retS_of (.inl rfl) h
theorem retS_end {st : St} {rs : List ResultVar} {r : AV} (h : optP (retAV P st rs) fun v => closed v = true ∧ nodupS (stA v) = true ∧ ((stA v).all fun g => !st.cons g && !st.frz g) = true ∧ rnA (stA v) v = r) : retS P rs r .normal st :=
  retS_of (.inr rfl) h
end Go.VS
namespace Go.VS
set_option linter.unusedVariables false
set_option linter.unusedSimpArgs false
set_option linter.unusedSectionVars false
open Go
variable {P : Program}
theorem vops_nil (n : Nat) (ops : Array Oper) (st : St) (K : St → Prop) : vops P n ops [] st K = K st := rfl
theorem vops_mk (n : Nat) (ops : Array Oper) (o : Oper) (os : List Oper) (s : Nat → AV) (b : Nat → Option (List AV)) (c f : Stamp → Bool) (m : Nat → Bool) (r : Nat → Option Stamp) (K : St → Prop) :
    vops P n ops (o :: os) (St.mk s b c f m r) K = vguard n ops (St.mk s b c f m r) o (vop P n (St.mk s b c f m r) o) fun st' => vops P n ops os st' K := rfl
theorem guardP_tt (n : Nat) (st : St) (d : Option Nat) (R : (St → Prop) → Prop) (K : St → Prop) : guardP n st d (.bool true) true R K = R K := by simp [guardP]
theorem guardP_ff (n : Nat) (st : St) (d : Option Nat) (R : (St → Prop) → Prop) (K : St → Prop) : guardP n st d (.bool false) false R K = R K := by simp [guardP]
theorem guardP_tf (n : Nat) (st : St) (d : Option Nat) (R : (St → Prop) → Prop) (K : St → Prop) : guardP n st d (.bool true) false R K = (St.fits n d = true ∧ K (st.putO d (.tup []))) := by simp [guardP]
theorem guardP_ft (n : Nat) (st : St) (d : Option Nat) (R : (St → Prop) → Prop) (K : St → Prop) : guardP n st d (.bool false) true R K = (St.fits n d = true ∧ K (st.putO d (.tup []))) := by simp [guardP]
theorem guardP_skip (n : Nat) (st : St) (d : Option Nat) (want : Bool) (R : (St → Prop) → Prop) (K : St → Prop) : guardP n st d (.tup []) want R K = (St.fits n d = true ∧ K (st.putO d (.tup []))) := rfl
theorem int_beq (x y : Int) : (x == y) = decide (x = y) := by
  by_cases h : x = y <;> simp [h]
theorem int_bne (x y : Int) : (x != y) = !decide (x = y) := by
  by_cases h : x = y <;> simp [h]
theorem condP_true (x y : Prop) : condP (.bool true) x y = x := by simp [condP]
theorem condP_false (x y : Prop) : condP (.bool false) x y = y := by simp [condP]
theorem AWP.seqD {X : Ent} (ks A is : List Nat) {id : Nat} {ops : Array Oper} {y : Code} {Q : Exit → St → Prop} {st : St} (hm : P.follows .mixedOrders = true) (ho : orderOk P ops A is = true) (hb : inB ops is = true)
    (h : ∀ K : St → Prop, (∀ s, AWP P X y Q s → K s) → vops P X.n ops (pickO ops is) st fun s => K (norm ks s)) : AWP P X (.seq (.region id ops true) y) Q st :=
  AWP.seq (AWP.regionPick ks A is hm ho hb (h _ fun _ hs => hs))
theorem AWP.lastD {X : Ent} (ks A is : List Nat) {id : Nat} {ops : Array Oper} {Q : Exit → St → Prop} {st : St} (hm : P.follows .mixedOrders = true) (ho : orderOk P ops A is = true) (hb : inB ops is = true)
    (h : ∀ K : St → Prop, (∀ s, Q .normal s → K s) → vops P X.n ops (pickO ops is) st fun s => K (norm ks s)) : AWP P X (.region id ops true) Q st :=
  AWP.regionPick ks A is hm ho hb (h _ fun _ hs => hs)
theorem AWP.condK {X : Ent} {c : Operand} {x y : Code} {Q : Exit → St → Prop} {st : St} (h : ∀ Kt Kf : Prop, (AWP P X x Q st → Kt) → (AWP P X y Q st → Kf) → VS.condP (st.ev P 0 c) Kt Kf) :
    AWP P X (.cond c x y) Q st := AWP.condP (h _ _ id id)
theorem AWP.seqC {X : Ent} {c : Operand} {x y z : Code} {Q : Exit → St → Prop} {st : St}
    (h : ∀ Kt Kf : Prop, (AWP P X x (thenS (AWP P X z Q) Q) st → Kt) → (AWP P X y (thenS (AWP P X z Q) Q) st → Kf) → VS.condP (st.ev P 0 c) Kt Kf) : AWP P X (.seq (.cond c x y) z) Q st :=
  AWP.seq (AWP.condK h)
theorem AWP.skipN {X : Ent} {z : Code} {Q : Exit → St → Prop} {st : St} (h : AWP P X z Q st) : AWP P X .skip (thenS (AWP P X z Q) Q) st := AWP.skip h
theorem AWP.seqB {X : Ent} {id : Nat} {x z : Code} {Q : Exit → St → Prop} {st : St} (h : AWP P X x (blockS id (thenS (AWP P X z Q) Q)) st) : AWP P X (.seq (.block id x) z) Q st :=
  AWP.seq (AWP.block h)
theorem AWP.seqA {X : Ent} {x y z : Code} {Q : Exit → St → Prop} {st : St} (h : AWP P X (.seq x y) (thenS (AWP P X z Q) Q) st) : AWP P X (.seq (.seq x y) z) Q st := AWP.seq h
theorem guardP_split {n : Nat} {st : St} {d : Option Nat} {b want : Bool} {R : (St → Prop) → Prop} {K : St → Prop} (ht : b = true → guardP n st d (.bool true) want R K)
    (hf : b = false → guardP n st d (.bool false) want R K) : guardP n st d (.bool b) want R K := by
  cases b
  · exact hf rfl
  · exact ht rfl
theorem condP_split {b : Bool} {x y : Prop} (ht : b = true → x) (hf : b = false → y) : VS.condP (.bool b) x y := ⟨ht, hf⟩
theorem blockS_x {id : Nat} {Q : Exit → St → Prop} {s : St} (h : Q .normal s) : blockS id Q (.exit id) s := by
  simp only [blockS, if_true]; exact h
theorem blockS_y {id id' : Nat} {Q : Exit → St → Prop} {s : St} (hne : id' ≠ id) (h : Q (.exit id') s) : blockS id Q (.exit id') s := by
  simp only [blockS, if_neg hne]; exact h
theorem need_true {α : Type} (x : Option α) : need True x = x := rfl
end Go.VS
