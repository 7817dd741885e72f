/- Part of a framework that states what Go functions answer on values as data; it holds for every program of the model. -/
import Derived.Test.YtedjcbdhafmjiaaVsState
import Derived.WideLaws
import Derived.Laws.BytesArg
import Derived.Deep.MidRow
import Derived.Deep.AppendSrc
namespace Go.VS
set_option linter.unusedVariables false
set_option linter.unusedSimpArgs false
set_option linter.unusedSectionVars false
open Go

/-! ### What operands are -/

def _root_.Go.Program.elemCells (P : Program) (T : TypeId) : Nat :=
  match P.underlying T with
  | some (.slice E) => P.cellsOf E
  | _ => 0

def constAV (P : Program) (T : TypeId) : Value → AV
  | .int k n => .int k n
  | .bool b => .bool b
  | .string s => .str s.data.toList
  | .slice none 0 0 => .sl none true (P.elemCells T) []
  | .pointer none => .nilp
  | .nilFunc => .nilf
  | _ => .undef

def St.ev (st : St) (P : Program) (T : TypeId) : Operand → AV
  | .tmp t => st.s t
  | .const v => constAV P T v
  | .func f => .fn f []
  | .global g =>
    match tabLook g with
    | some cs => .eptr none cs.length [.agg cs] 0 0
    | none => .undef

theorem rep_const (w : World) (C : Ctx) (P : Program) (T : TypeId) (v : Value) : Rep w C (constAV P T v) v := by
  unfold constAV
  split <;> simp [Rep, RepF]

theorem Conc.ev {X : Ent} {st : St} {C : Ctx} {a : Act} {w : World} (h : Conc X st C a w) (P : Program) (T : TypeId) (x : Operand) : Rep w C (st.ev P T x) (a.eval x) := by
  cases x with
  | tmp t => exact h.slots t
  | const v => exact rep_const w C P T v
  | func f => exact ⟨[], rfl, rfl⟩
  | global g =>
    simp only [St.ev]
    cases e : tabLook g with
    | none => trivial
    | some cs =>
      obtain ⟨h1, h2, vs, h3, h4⟩ := h.mem.tab g cs e
      refine ⟨g, 0, vs, by simp [Act.eval], by simp, h2, h1, h3, .agg vs.toArray, [], by simp [Value.cells], by simpa [Value.cells] using h4.length, ?_, ⟨vs, rfl, h4⟩, rfl⟩
      intro u hu
      have hu : u ∈ vs := by simpa [Value.cells] using hu
      obtain ⟨i, hi⟩ := List.mem_iff_getElem?.1 hu
      have hlt := (List.getElem?_eq_some_iff.1 hi).1
      obtain ⟨v, g1, g2, _⟩ := h4.get (List.getElem?_eq_getElem (by rw [← h4.length]; exact hlt))
      rw [hi] at g1; cases g1; exact g2

def St.alive (st : St) : Option (Stamp × Nat) → Bool
  | none => true
  | some (g, _) => !st.cons g

/-- A guard on an answer. -/
def need {α : Type} (c : Prop) [Decidable c] (x : Option α) : Option α := if c then x else none
theorem need_some {α : Type} {c : Prop} [Decidable c] {x : Option α} {v : α} (h : need c x = some v) : c ∧ x = some v := by
  unfold need at h
  split at h
  · exact ⟨by assumption, h⟩
  · cases h

/-! ### Numbers, texts, yes and no -/

def bitop (op : BinOp) (k : IntKind) (x y : Int) : Int :=
  match op with
  | .and => k.wrap (BitVec.ofInt k.bits x &&& BitVec.ofInt k.bits y).toNat
  | .or => k.wrap (BitVec.ofInt k.bits x ||| BitVec.ofInt k.bits y).toNat
  | .xor => k.wrap (BitVec.ofInt k.bits x ^^^ BitVec.ofInt k.bits y).toNat
  | _ => k.wrap (BitVec.ofInt k.bits x &&& ~~~ BitVec.ofInt k.bits y).toNat

def intBin (op : BinOp) (k : IntKind) (x : Int) (k' : IntKind) (y : Int) : Option AV :=
  match op with
  | .shl => need (0 ≤ y) (some (.int k (k.wrap (x * 2 ^ min y.toNat k.bits))))
  | .shr => need (0 ≤ y) (some (.int k (x.fdiv (2 ^ min y.toNat k.bits))))
  | .add => need (k = k') (some (.int k (k.wrap (x + y))))
  | .sub => need (k = k') (some (.int k (k.wrap (x - y))))
  | .mul => need (k = k') (some (.int k (k.wrap (x * y))))
  | .quo => need (k = k' ∧ y ≠ 0) (some (.int k (k.wrap (x.tdiv y))))
  | .rem => need (k = k' ∧ y ≠ 0) (some (.int k (x.tmod y)))
  | .and => need (k = k') (some (.int k (bitop .and k x y)))
  | .or => need (k = k') (some (.int k (bitop .or k x y)))
  | .xor => need (k = k') (some (.int k (bitop .xor k x y)))
  | .andNot => need (k = k') (some (.int k (bitop .andNot k x y)))
  | .eql => need (k = k') (some (.bool (x == y)))
  | .neq => need (k = k') (some (.bool (x != y)))
  | .lss => need (k = k') (some (.bool (decide (x < y))))
  | .leq => need (k = k') (some (.bool (decide (x ≤ y))))
  | .gtr => need (k = k') (some (.bool (decide (x > y))))
  | .geq => need (k = k') (some (.bool (decide (x ≥ y))))

def strBin (op : BinOp) (x y : List UInt8) : Option AV :=
  match op with
  | .add => need (x.length + y.length ≤ 9223372036854775807) (some (.str (x ++ y)))
  | .eql => some (.bool (x == y))
  | .neq => some (.bool (!(x == y)))
  | .lss => some (.bool (Op.bytesLess x y))
  | .leq => some (.bool (Op.bytesLess x y || x == y))
  | .gtr => some (.bool (!(Op.bytesLess x y || x == y)))
  | .geq => some (.bool (!Op.bytesLess x y))
  | _ => none

theorem intBin_ok {P : Program} {op : BinOp} {k k' : IntKind} {x y : Int} {v : AV} (h : intBin op k x k' y = some v) (T : TypeId) (o1 o2 : Operand) (w : World) :
    ∃ u, ((do eqGuard op T o1 o2 (.int k x) (.int k' y); binOp op T (.int k x) (.int k' y)) : Sem Value).run P w = .ok u w ∧ (∀ C, Rep w C v u) := by
  have hg : eqGuard op T o1 o2 (.int k x) (.int k' y) = pure () := eqGuard_at_int ..
  rw [hg]
  cases op <;> simp only [intBin] at h <;> obtain ⟨hc, h⟩ := need_some h <;> cases h <;>
    first
      | (subst hc; exact ⟨_, by simp [binOp, Op.intArith, Op.intBits, Op.intCmp, bitop], fun C => rfl⟩)
      | (obtain ⟨hc, h0⟩ := hc; subst hc; exact ⟨_, by simp [binOp, Op.intDiv, h0], fun C => rfl⟩)
      | exact ⟨_, by simp [binOp, Op.shift, Int.not_lt.2 hc], fun C => rfl⟩

theorem strBin_ok {P : Program} {op : BinOp} {x y : List UInt8} {v : AV} (h : strBin op x y = some v) (T : TypeId) (o1 o2 : Operand) (w : World) :
    ∃ u, ((do eqGuard op T o1 o2 (.string ⟨x.toArray⟩) (.string ⟨y.toArray⟩); binOp op T (.string ⟨x.toArray⟩) (.string ⟨y.toArray⟩)) : Sem Value).run P w = .ok u w ∧ (∀ C, Rep w C v u) := by
  have hg : eqGuard op T o1 o2 (.string ⟨x.toArray⟩) (.string ⟨y.toArray⟩) = pure () := eqGuard_at_string ..
  rw [hg]
  cases op <;> simp only [strBin] at h <;> (try cases h)
  case eql => exact ⟨.bool (x == y), by simp [binOp, Op.stringOp], fun C => rfl⟩
  case neq => exact ⟨.bool (!(x == y)), by simp [binOp, Op.stringOp], fun C => rfl⟩
  case lss => exact ⟨.bool (Op.bytesLess x y), by simp [binOp, Op.stringOp], fun C => rfl⟩
  case leq => exact ⟨.bool (Op.bytesLess x y || x == y), by simp [binOp, Op.stringOp], fun C => rfl⟩
  case gtr => exact ⟨.bool (!(Op.bytesLess x y || x == y)), by simp [binOp, Op.stringOp], fun C => rfl⟩
  case geq => exact ⟨.bool (!Op.bytesLess x y), by simp [binOp, Op.stringOp], fun C => rfl⟩
  obtain ⟨hc, h⟩ := need_some h
  cases h
  refine ⟨.string ⟨(x ++ y).toArray⟩, ?_, fun C => rfl⟩
  have hc' : ¬ (9223372036854775807 < (((⟨x.toArray⟩ : ByteArray).size : Int) + ((⟨y.toArray⟩ : ByteArray).size : Int))) := by
    simp [ByteArray.size]; omega
  simp only [binOp, Op.stringOp, pure_bind]
  have hm : IntKind.i64.max = 9223372036854775807 := by decide
  rw [hm]
  simp [hc']
  apply ByteArray.ext
  simp

def isNilC : AV → Bool
  | .sl none true _ [] => true
  | _ => false

def _root_.Go.Program.isBoolT (P : Program) (T : TypeId) : Bool :=
  match P.underlying T with
  | some .bool => true
  | _ => false
def _root_.Go.Program.isPtrT (P : Program) (T : TypeId) : Bool :=
  match P.underlying T with
  | some (.pointer _) => true
  | _ => false

def pvBin (P : Program) (st : St) (op : BinOp) (T : TypeId) (x y : AV) : Option AV :=
  match x, y with
  | .int k a, .int k' b => intBin op k a k' b
  | .str a, .str b => strBin op a b
  | .bool a, .bool b => need (P.isBoolT T = true)
      (match op with
       | .eql => some (.bool (a == b))
       | .neq => some (.bool (!(a == b)))
       | _ => none)
  | .sl o nb _ _, .sl none true _ [] => need (st.alive o = true ∧ P.elemCells T ≠ 0)
      (match op with
       | .eql => some (.bool nb)
       | .neq => some (.bool (!nb))
       | _ => none)
  | .ptr _ _, .nilp => need (P.isPtrT T = true)
      (match op with
       | .eql => some (.bool false)
       | .neq => some (.bool true)
       | _ => none)
  | .nilp, .nilp => need (P.isPtrT T = true)
      (match op with
       | .eql => some (.bool true)
       | .neq => some (.bool false)
       | _ => none)
  | _, _ => none

theorem elemCells_slice {P : Program} {T : TypeId} (h : P.elemCells T ≠ 0) : ∃ E, P.underlying T = some (.slice E) := by
  unfold Program.elemCells at h
  split at h
  · exact ⟨_, by assumption⟩
  · exact absurd rfl h

theorem isBoolT_of {P : Program} {T : TypeId} (h : P.isBoolT T = true) : P.underlying T = some .bool := by
  unfold Program.isBoolT at h
  split at h
  · assumption
  · cases h
theorem isPtrT_of {P : Program} {T : TypeId} (h : P.isPtrT T = true) : ∃ E, P.underlying T = some (.pointer E) := by
  unfold Program.isPtrT at h
  split at h
  · exact ⟨_, by assumption⟩
  · cases h

theorem run_equal_bool {P : Program} {T : TypeId} (h : P.underlying T = some .bool) (a b : Bool) (w : World) : (Op.equal T (.bool a) (.bool b)).run P w = .ok (a == b) w := by
  show (Op.equalIn (9999 + 1) T (.bool a) (.bool b)).run P w = _
  generalize 9999 = d
  simp [Op.equalIn, run_underlying h]

theorem run_equal_slice {P : Program} {T E : TypeId} (h : P.underlying T = some (.slice E)) (a : Option Addr) (l c : Nat) (w : World) :
    (Op.equal T (.slice a l c) (.slice none 0 0)).run P w = .ok a.isNone w := by
  show (Op.equalIn (9999 + 1) T (.slice a l c) (.slice none 0 0)).run P w = _
  generalize 9999 = d
  cases a <;> simp [Op.equalIn, run_underlying h]

theorem run_equal_ptr {P : Program} {T E : TypeId} (h : P.underlying T = some (.pointer E)) (a : Option Addr) (w : World) :
    (Op.equal T (.pointer a) (.pointer none)).run P w = .ok a.isNone w := by
  show (Op.equalIn (9999 + 1) T (.pointer a) (.pointer none)).run P w = _
  generalize 9999 = d
  cases a <;> simp [Op.equalIn, run_underlying h]

theorem rep_sl_nb {w : World} {C : Ctx} {st : St} (hcons : ∀ g, st.cons g = true ↔ C.own g = .dead) {o : Option (Stamp × Nat)} {nb : Bool} {sz : Nat} {l : List AV} {u : Value}
    (h : Rep w C (.sl o nb sz l) u) (ha : st.alive o = true) : ∃ p c, u = .slice p l.length c ∧ p.isNone = nb := by
  cases o with
  | none =>
    rcases h with ⟨h0, h1, h2⟩ | ⟨h0, b, off, cap, vs, sp, h1, _⟩
    · subst h1; exact ⟨none, 0, h2, by simp [h0]⟩
    · exact ⟨_, _, h1, by simp [h0]⟩
  | some p =>
    obtain ⟨g, eo⟩ := p
    have hd : C.own g ≠ .dead := fun e => by
      have := (hcons g).2 e
      simp [St.alive, this] at ha
    rcases h with h | ⟨h0, h1, h2⟩ | ⟨h0, b, base, off, cap, vs, _, _, h1, _⟩
    · exact absurd h hd
    · subst h1; exact ⟨none, 0, h2, by simp [h0]⟩
    · exact ⟨_, _, h1, by simp [h0]⟩

theorem pvBin_ok {P : Program} {st : St} {op : BinOp} {T : TypeId} {x y v : AV} (h : pvBin P st op T x y = some v) {w : World} {C : Ctx}
    (hcons : ∀ g, st.cons g = true ↔ C.own g = .dead) (o1 o2 : Operand) {u1 u2 : Value} (h1 : Rep w C x u1) (h2 : Rep w C y u2) :
    ∃ u, ((do eqGuard op T o1 o2 u1 u2; binOp op T u1 u2) : Sem Value).run P w = .ok u w ∧ Rep w C v u := by
  unfold pvBin at h
  split at h
  · simp only [Rep] at h1 h2
    subst h1; subst h2
    obtain ⟨u, hu, hr⟩ := intBin_ok (P := P) h T o1 o2 w
    exact ⟨u, hu, hr C⟩
  · simp only [Rep] at h1 h2
    subst h1; subst h2
    obtain ⟨u, hu, hr⟩ := strBin_ok (P := P) h T o1 o2 w
    exact ⟨u, hu, hr C⟩
  · simp only [Rep] at h1 h2
    subst h1; subst h2
    obtain ⟨hT, h⟩ := need_some h
    replace hT := isBoolT_of hT
    rw [eqGuard_at_bool]
    split at h <;> cases h
    · exact ⟨_, by simp [binOp, run_equal_bool hT], rfl⟩
    · exact ⟨_, by simp [binOp, run_equal_bool hT], rfl⟩
  · obtain ⟨⟨ha, hE⟩, h⟩ := need_some h
    obtain ⟨E, hT⟩ := elemCells_slice hE
    obtain ⟨p, c, rfl, hp⟩ := rep_sl_nb hcons h1 ha
    have h2' : u2 = .slice none 0 0 := by
      rcases h2 with ⟨_, _, h2⟩ | ⟨h0, _⟩
      · exact h2
      · cases h0
    subst h2'
    rw [eqGuard_at_slice]
    split at h <;> cases h
    · exact ⟨.bool p.isNone, by simp [binOp, run_equal_slice hT], by simp [Rep, ← hp]⟩
    · exact ⟨.bool (!p.isNone), by simp [binOp, run_equal_slice hT], by simp [Rep, ← hp]⟩
  · obtain ⟨hT, h⟩ := need_some h
    obtain ⟨b, _, rfl⟩ := h1
    simp only [Rep] at h2
    subst h2
    obtain ⟨E, hE⟩ := isPtrT_of hT
    rw [eqGuard_at_pointer]
    split at h <;> cases h
    · exact ⟨_, by simp [binOp, run_equal_ptr hE], rfl⟩
    · exact ⟨_, by simp [binOp, run_equal_ptr hE], rfl⟩
  · obtain ⟨hT, h⟩ := need_some h
    simp only [Rep] at h1 h2
    subst h1; subst h2
    obtain ⟨E, hE⟩ := isPtrT_of hT
    rw [eqGuard_at_pointer]
    split at h <;> cases h
    · exact ⟨_, by simp [binOp, run_equal_ptr hE], rfl⟩
    · exact ⟨_, by simp [binOp, run_equal_ptr hE], rfl⟩
  · cases h
end Go.VS
