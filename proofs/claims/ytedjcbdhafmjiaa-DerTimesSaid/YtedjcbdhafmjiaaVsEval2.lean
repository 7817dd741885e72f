/- Part of a framework that states what Go functions answer on values as data; it holds for every program of the model. -/
import Derived.Test.YtedjcbdhafmjiaaVsEval
namespace Go.VS
set_option linter.unusedVariables false
set_option linter.unusedSimpArgs false
set_option linter.unusedSectionVars false
open Go
variable {P : Program}

/-- Operations picked by an order. -/
def pickO (ops : Array Oper) : List Nat → List Oper
  | [] => []
  | i :: is =>
    match ops[i]? with
    | some o => o :: pickO ops is
    | none => []

def inB (ops : Array Oper) (is : List Nat) : Bool := is.all fun i => decide (i < ops.size)

theorem vidx_pick {n : Nat} {ops : Array Oper} {K : St → Prop} : ∀ (is : List Nat) (st : St), inB ops is = true → vops P n ops (pickO ops is) st K → vidx P n ops is st K
  | [], st, _, h => h
  | i :: is, st, hb, h => by
    simp only [inB, List.all_cons, Bool.and_eq_true, decide_eq_true_eq] at hb
    have hi : ops[i]? = some ops[i] := Array.getElem?_eq_getElem hb.1
    simp only [pickO, hi] at h
    simp only [vidx, hi]
    exact vguard_mono (fun s hs => vidx_pick is s hb.2 hs) h

/-- Where a guard looks. -/
def guardSlot (ops : Array Oper) (j : Nat) : Option Nat := (ops[j]?).bind (·.dst)

theorem vguard_none {n : Nat} {ops : Array Oper} {st : St} {d : Option Tmp} {op : Op} {ty : TypeId} {pos : String} {af : Array Edge} {R : (St → Prop) → Prop} {K : St → Prop} :
    vguard n ops st ⟨d, op, ty, pos, af, none⟩ R K = R K := rfl

def guardP (n : Nat) (st : St) (d : Option Nat) (v : AV) (want : Bool) (R : (St → Prop) → Prop) (K : St → Prop) : Prop :=
  match v with
  | .bool b => (b = want → R K) ∧ (b ≠ want → St.fits n d = true ∧ K (st.putO d (.tup [])))
  | .tup [] => St.fits n d = true ∧ K (st.putO d (.tup []))
  | _ => False

theorem vguard_some {n : Nat} {ops : Array Oper} {st : St} {d : Option Tmp} {op : Op} {ty : TypeId} {pos : String} {af : Array Edge} {j : Nat} {want : Bool} {R : (St → Prop) → Prop} {K : St → Prop} :
    vguard n ops st ⟨d, op, ty, pos, af, some (j, want)⟩ R K = optP (guardSlot ops j) fun g => guardP n st d (st.s g) want R K := by
  unfold vguard optP guardSlot guardP
  simp only
  cases (ops[j]?).bind (·.dst) with
  | none => rfl
  | some g =>
    simp only
    cases hs : st.s g with
    | tup l => cases l <;> rfl
    | _ => rfl

theorem guardP_bool (n : Nat) (st : St) (d : Option Nat) (b want : Bool) (R : (St → Prop) → Prop) (K : St → Prop) :
    guardP n st d (.bool b) want R K = ((b = want → R K) ∧ (b ≠ want → St.fits n d = true ∧ K (st.putO d (.tup [])))) := rfl

/-- A condition. -/
def condP (v : AV) (x y : Prop) : Prop :=
  match v with
  | .bool b => (b = true → x) ∧ (b = false → y)
  | _ => False

theorem condP_bool (b : Bool) (x y : Prop) : condP (.bool b) x y = ((b = true → x) ∧ (b = false → y)) := rfl

theorem AWP.condP {X : Ent} {c : Operand} {x y : Code} {Q : Exit → St → Prop} {st : St} (h : VS.condP (st.ev P 0 c) (AWP P X x Q st) (AWP P X y Q st)) : AWP P X (.cond c x y) Q st := by
  unfold VS.condP at h
  split at h
  · rename_i b hb
    exact AWP.cond hb h.1 h.2
  · exact h.elim

/-- Code up to the next fork. -/
def VW (P : Program) (X : Ent) (ks : List Nat) : Code → (Exit → St → Prop) → St → Prop
  | .seq x y, Q, st => VW P X ks x (thenS (AWP P X y Q) Q) st
  | .region _ ops false, Q, st => vops P X.n ops ops.toList st fun s => Q .normal (norm ks s)
  | .cond c x y, Q, st => condP (st.ev P 0 c) (AWP P X x Q st) (AWP P X y Q st)
  | .block id c, Q, st => VW P X ks c (blockS id Q) st
  | .exit id, Q, st => Q (.exit id) st
  | .ret, Q, st => Q .ret st
  | .skip, Q, st => Q .normal st
  | .label _, Q, st => Q .normal st
  | c, Q, st => AWP P X c Q st

theorem VW.ok {X : Ent} (ks : List Nat) : ∀ (c : Code) {Q : Exit → St → Prop} {st : St}, VW P X ks c Q st → AWP P X c Q st := by
  intro c
  induction c with
  | seq x y ihx _ => exact fun h => AWP.seq (ihx h)
  | region id ops d =>
    cases d with
    | false => exact fun h => AWP.region h
    | true => exact fun h => h
  | cond c x y => exact fun h => AWP.condP h
  | block id c ih => exact fun h => AWP.block (ih h)
  | exit id => exact fun h => AWP.exit h
  | ret => exact fun h => AWP.ret h
  | skip => exact fun h => AWP.skip h
  | label l => exact fun h => AWP.label h
  | _ => exact fun h => h

theorem AWP.regionPick {X : Ent} (ks A is : List Nat) {id : Nat} {ops : Array Oper} {Q : Exit → St → Prop} {st : St} (hm : P.follows .mixedOrders = true) (ho : orderOk P ops A is = true)
    (hb : inB ops is = true) (h : vops P X.n ops (pickO ops is) st fun s => Q .normal (norm ks s)) : AWP P X (.region id ops true) Q st :=
  AWP.regionAny A is hm ho (vidx_pick is st hb h)

theorem entry0 : entry [] = ⟨lk [], lkB [], hasS [], hasS [], hasN [], lkR []⟩ := by
  unfold entry
  congr 1
theorem entry1 (a : AV) : entry [a] = ⟨lk [(0, a)], lkB [], hasS [], hasS [], hasN [], lkR []⟩ := by
  unfold entry
  congr 1
  funext t
  match t with
  | 0 => rfl
  | k + 1 => simp [lk]
theorem entry2 (a b : AV) : entry [a, b] = ⟨lk [(0, a), (1, b)], lkB [], hasS [], hasS [], hasN [], lkR []⟩ := by
  unfold entry
  congr 1
  funext t
  match t with
  | 0 => rfl
  | 1 => rfl
  | k + 2 => simp [lk]
theorem entry3 (a b c : AV) : entry [a, b, c] = ⟨lk [(0, a), (1, b), (2, c)], lkB [], hasS [], hasS [], hasN [], lkR []⟩ := by
  unfold entry
  congr 1
  funext t
  match t with
  | 0 => rfl
  | 1 => rfl
  | 2 => rfl
  | k + 3 => simp [lk]

theorem getElem?_map' {α : Type} [Inhabited α] (xs : List α) (f : α → AV) (i : Nat) : (xs.map f)[i]? = need (i < xs.length) (some (f (xs.getD i default))) := by
  unfold need
  rw [List.getElem?_map]
  by_cases h : i < xs.length
  · simp [h]
  · simp [h]

theorem wrap_i64 (x : Int) (h : -9223372036854775808 ≤ x ∧ x ≤ 9223372036854775807) : IntKind.wrap .i64 x = x := by
  have h1 : IntKind.min .i64 ≤ x := by have : IntKind.min .i64 = -9223372036854775808 := by decide
                                       omega
  have h2 : x ≤ IntKind.max .i64 := by have : IntKind.max .i64 = 9223372036854775807 := by decide
                                       omega
  simp [IntKind.wrap, IntKind.bits, IntKind.signed]
  omega

def nodupS : List Stamp → Bool
  | [] => true
  | g :: gs => !hasS gs g && nodupS gs
def posS : List Stamp → Stamp → Nat
  | [], _ => 0
  | k :: l, g => if g = k then 0 else posS l g + 1
theorem hasS_mem {l : List Stamp} {g : Stamp} : hasS l g = true ↔ g ∈ l := by
  induction l with
  | nil => simp [hasS]
  | cons k l ih =>
    simp only [hasS, List.mem_cons]
    split
    · simp [*]
    · simp [*]
theorem nodupS_ok : ∀ {l : List Stamp}, nodupS l = true → l.Nodup
  | [], _ => List.nodup_nil
  | g :: gs, h => by
    simp only [nodupS, Bool.and_eq_true, Bool.not_eq_true'] at h
    refine List.nodup_cons.2 ⟨fun hm => ?_, nodupS_ok h.2⟩
    rw [hasS_mem.2 hm] at h; cases h.1
theorem idxOf_posS : ∀ (l : List Stamp) (g : Stamp), l.idxOf g = posS l g
  | [], _ => rfl
  | k :: l, g => by
    simp only [posS, List.idxOf_cons, idxOf_posS l g]
    by_cases e : g = k
    · subst e; simp
    · have : (k == g) = false := by simpa using fun x => e x.symm
      rw [this, if_neg e]; rfl

theorem retS_of {st : St} {rs : List ResultVar} {r : AV} {e : Exit} (he : e = .ret ∨ e = .normal) (h : optP (retAV P st rs) fun v => closed v = true ∧ nodupS (stA v) = true ∧ ((stA v).all fun g => !st.cons g && !st.frz g) = true ∧ rnA (stA v) v = r) : retS P rs r e st := by
  unfold optP at h
  split at h
  · rename_i v hv
    obtain ⟨h1, h2, h3, h4⟩ := h
    have : ∃ v, retAV P st rs = some v ∧ retOk st v ∧ rnA (stA v) v = r := ⟨v, hv, ⟨h1, nodupS_ok h2, fun g hg => by simpa using List.all_eq_true.1 h3 g hg⟩, h4⟩
    rcases he with rfl | rfl <;> exact this
  · exact h.elim
theorem retS_ret {st : St} {rs : List ResultVar} {r : AV} (h : optP (retAV P st rs) fun v => closed v = true ∧ nodupS (stA v) = true ∧ ((stA v).all fun g => !st.cons g && !st.frz g) = true ∧ rnA (stA v) v = r) : retS P rs r .ret st :=
  retS_of (.inl rfl) h
theorem retS_end {st : St} {rs : List ResultVar} {r : AV} (h : optP (retAV P st rs) fun v => closed v = true ∧ nodupS (stA v) = true ∧ ((stA v).all fun g => !st.cons g && !st.frz g) = true ∧ rnA (stA v) v = r) : retS P rs r .normal st :=
  retS_of (.inr rfl) h
end Go.VS
