/- Part of a framework that states what Go functions answer on values as data; it holds for every program of the model. -/
import Derived.Test.YtfemncfhiihckaaDoorVsState
import Derived.WideLaws
import Derived.Laws.BytesArg
import Derived.Deep.MidRow
import Derived.Deep.AppendSrc
import Derived.Laws.StructEq
import Derived.Laws.BytesString
import Derived.Laws.Cover4
import Derived.Laws.Slices
import Derived.Laws.Build
import Derived.Laws.ByValue
import Derived.Laws.Tables
namespace Go.VS
set_option linter.unusedVariables false
set_option linter.unusedSimpArgs false
set_option linter.unusedSectionVars false
open Go
def _root_.Go.Program.elemCells (P : Program) (T : TypeId) : Nat :=
  match P.underlying T with
  | some (.slice E) => P.cellsOf E
  | _ => 0
def constAV (P : Program) (T : TypeId) : Value → AV
  | .int k n => .int k n
  | .bool b => .bool b
  | .string s => .str s.data.toList
  | .slice none 0 0 => .sl none true (P.elemCells T) []
  | .pointer none => .nilp
  | .nilFunc => .nilf
  | _ => .undef
def St.ev (st : St) (P : Program) (T : TypeId) : Operand → AV
  | .tmp t => st.s t
  | .const v => constAV P T v
  | .func f => .fn f []
  | .global g =>
    match tabLook g with
    | some cs => .eptr none cs.length [.agg cs] 0 0
    | none => .undef
theorem rep_const (w : World) (C : Ctx) (P : Program) (T : TypeId) (v : Value) : Rep w C (constAV P T v) v := by
  unfold constAV
  split <;> simp [Rep, RepF]
theorem Conc.ev {X : Ent} {st : St} {C : Ctx} {a : Act} {w : World} (h : Conc X st C a w) (P : Program) (T : TypeId) (x : Operand) : Rep w C (st.ev P T x) (a.eval x) := by
  cases x with
  | tmp t => exact h.slots t
  | const v => exact rep_const w C P T v
  | func f => exact ⟨[], rfl, rfl⟩
  | global g =>
    simp only [St.ev]
    cases e : tabLook g with
    | none => trivial
    | some cs =>
      obtain ⟨h1, h2, vs, h3, h4⟩ := h.mem.tab g cs e
      refine ⟨g, 0, vs, by simp [Act.eval], by simp, h2, h1, h3, .agg vs.toArray, [], by simp [Value.cells], by simpa [Value.cells] using h4.length, ?_, ⟨vs, rfl, h4⟩, rfl⟩
      intro u hu
      have hu : u ∈ vs := by simpa [Value.cells] using hu
      obtain ⟨i, hi⟩ := List.mem_iff_getElem?.1 hu
      have hlt := (List.getElem?_eq_some_iff.1 hi).1
      obtain ⟨v, g1, g2, _⟩ := h4.get (List.getElem?_eq_getElem (by rw [← h4.length]; exact hlt))
      rw [hi] at g1; cases g1; exact g2
def St.alive (st : St) : Option (Stamp × Nat) → Bool
  | none => true
  | some (g, _) => !st.cons g
/-- A guard on an answer. -/
def need {α : Type} (c : Prop) [Decidable c] (x : Option α) : Option α := if c then x else none
theorem need_some {α : Type} {c : Prop} [Decidable c] {x : Option α} {v : α} (h : need c x = some v) : c ∧ x = some v := by
  unfold need at h
  split at h
  · exact ⟨by assumption, h⟩
  · cases h
def bitop (op : BinOp) (k : IntKind) (x y : Int) : Int :=
  match op with
  | .and => k.wrap (BitVec.ofInt k.bits x &&& BitVec.ofInt k.bits y).toNat
  | .or => k.wrap (BitVec.ofInt k.bits x ||| BitVec.ofInt k.bits y).toNat
  | .xor => k.wrap (BitVec.ofInt k.bits x ^^^ BitVec.ofInt k.bits y).toNat
  | _ => k.wrap (BitVec.ofInt k.bits x &&& ~~~ BitVec.ofInt k.bits y).toNat
def intBin (op : BinOp) (k : IntKind) (x : Int) (k' : IntKind) (y : Int) : Option AV :=
  match op with
  | .shl => need (0 ≤ y) (some (.int k (k.wrap (x * 2 ^ min y.toNat k.bits))))
  | .shr => need (0 ≤ y) (some (.int k (x.fdiv (2 ^ min y.toNat k.bits))))
  | .add => need (k = k') (some (.int k (k.wrap (x + y))))
  | .sub => need (k = k') (some (.int k (k.wrap (x - y))))
  | .mul => need (k = k') (some (.int k (k.wrap (x * y))))
  | .quo => need (k = k' ∧ y ≠ 0) (some (.int k (k.wrap (x.tdiv y))))
  | .rem => need (k = k' ∧ y ≠ 0) (some (.int k (x.tmod y)))
  | .and => need (k = k') (some (.int k (bitop .and k x y)))
  | .or => need (k = k') (some (.int k (bitop .or k x y)))
  | .xor => need (k = k') (some (.int k (bitop .xor k x y)))
  | .andNot => need (k = k') (some (.int k (bitop .andNot k x y)))
  | .eql => need (k = k') (some (.bool (x == y)))
  | .neq => need (k = k') (some (.bool (x != y)))
  | .lss => need (k = k') (some (.bool (decide (x < y))))
  | .leq => need (k = k') (some (.bool (decide (x ≤ y))))
  | .gtr => need (k = k') (some (.bool (decide (x > y))))
  | .geq => need (k = k') (some (.bool (decide (x ≥ y))))
def strBin (op : BinOp) (x y : List UInt8) : Option AV :=
  match op with
  | .add => need (x.length + y.length ≤ 9223372036854775807) (some (.str (x ++ y)))
  | .eql => some (.bool (x == y))
  | .neq => some (.bool (!(x == y)))
  | .lss => some (.bool (Op.bytesLess x y))
  | .leq => some (.bool (Op.bytesLess x y || x == y))
  | .gtr => some (.bool (!(Op.bytesLess x y || x == y)))
  | .geq => some (.bool (!Op.bytesLess x y))
  | _ => none
theorem intBin_ok {P : Program} {op : BinOp} {k k' : IntKind} {x y : Int} {v : AV} (h : intBin op k x k' y = some v) (T : TypeId) (o1 o2 : Operand) (w : World) :
    ∃ u, ((do eqGuard op T o1 o2 (.int k x) (.int k' y); binOp op T (.int k x) (.int k' y)) : Sem Value).run P w = .ok u w ∧ (∀ C, Rep w C v u) := by
  have hg : eqGuard op T o1 o2 (.int k x) (.int k' y) = pure () := eqGuard_at_int ..
  rw [hg]
  cases op <;> simp only [intBin] at h <;> obtain ⟨hc, h⟩ := need_some h <;> cases h <;>
    first
      | (subst hc; exact ⟨_, by simp [binOp, Op.intArith, Op.intBits, Op.intCmp, bitop], fun C => rfl⟩)
      | (obtain ⟨hc, h0⟩ := hc; subst hc; exact ⟨_, by simp [binOp, Op.intDiv, h0], fun C => rfl⟩)
      | exact ⟨_, by simp [binOp, Op.shift, Int.not_lt.2 hc], fun C => rfl⟩
theorem strBin_ok {P : Program} {op : BinOp} {x y : List UInt8} {v : AV} (h : strBin op x y = some v) (T : TypeId) (o1 o2 : Operand) (w : World) :
    ∃ u, ((do eqGuard op T o1 o2 (.string ⟨x.toArray⟩) (.string ⟨y.toArray⟩); binOp op T (.string ⟨x.toArray⟩) (.string ⟨y.toArray⟩)) : Sem Value).run P w = .ok u w ∧ (∀ C, Rep w C v u) := by
  have hg : eqGuard op T o1 o2 (.string ⟨x.toArray⟩) (.string ⟨y.toArray⟩) = pure () := eqGuard_at_string ..
  rw [hg]
  cases op <;> simp only [strBin] at h <;> (try cases h)
  case eql => exact ⟨.bool (x == y), by simp [binOp, Op.stringOp], fun C => rfl⟩
  case neq => exact ⟨.bool (!(x == y)), by simp [binOp, Op.stringOp], fun C => rfl⟩
  case lss => exact ⟨.bool (Op.bytesLess x y), by simp [binOp, Op.stringOp], fun C => rfl⟩
  case leq => exact ⟨.bool (Op.bytesLess x y || x == y), by simp [binOp, Op.stringOp], fun C => rfl⟩
  case gtr => exact ⟨.bool (!(Op.bytesLess x y || x == y)), by simp [binOp, Op.stringOp], fun C => rfl⟩
  case geq => exact ⟨.bool (!Op.bytesLess x y), by simp [binOp, Op.stringOp], fun C => rfl⟩
  obtain ⟨hc, h⟩ := need_some h
  cases h
  refine ⟨.string ⟨(x ++ y).toArray⟩, ?_, fun C => rfl⟩
  have hc' : ¬ (9223372036854775807 < (((⟨x.toArray⟩ : ByteArray).size : Int) + ((⟨y.toArray⟩ : ByteArray).size : Int))) := by
    simp [ByteArray.size]; omega
  simp only [binOp, Op.stringOp, pure_bind]
  have hm : IntKind.i64.max = 9223372036854775807 := by decide
  rw [hm]
  simp [hc']
  apply ByteArray.ext
  simp
def isNilC : AV → Bool
  | .sl none true _ [] => true
  | _ => false
def _root_.Go.Program.isBoolT (P : Program) (T : TypeId) : Bool :=
  match P.underlying T with
  | some .bool => true
  | _ => false
def _root_.Go.Program.isPtrT (P : Program) (T : TypeId) : Bool :=
  match P.underlying T with
  | some (.pointer _) => true
  | _ => false
def intsOf : List AV → Option (List Int)
  | [] => some []
  | .int .u8 n :: l => (intsOf l).bind fun r => some (n :: r)
  | _ :: _ => none
def _root_.Go.Program.byteArr (P : Program) (T : TypeId) (m : Nat) : Bool :=
  match P.underlying T with
  | some (.array n E) => n == m && P.cellsOf E == 1 && (P.info? E).isSome && (match P.underlying E with | some (.int .u8) => true | _ => false) && !P.eqGuardType P.depth T
  | _ => false
theorem byteArr_of {P : Program} {T : TypeId} {m : Nat} (h : P.byteArr T m = true) : ∃ E, P.underlying T = some (.array m E) ∧ P.cellsOf E = 1 ∧ (P.info? E).isSome = true ∧ P.underlying E = some (.int .u8) ∧ P.eqGuardType P.depth T = false := by
  unfold Program.byteArr at h
  split at h
  · rename_i n E hT
    simp only [Bool.and_eq_true, beq_iff_eq, Bool.not_eq_true'] at h
    obtain ⟨⟨⟨⟨rfl, h2⟩, h3⟩, h4⟩, h5⟩ := h
    refine ⟨E, hT, h2, h3, ?_, h5⟩
    split at h4
    · assumption
    · cases h4
  · cases h
theorem run_equal_bytes {P : Program} {T : TypeId} {m : Nat} (h : P.byteArr T m = true) {as bs : List Int} (ha : as.length = m) (hb : bs.length = m) (w : World) :
    (Op.equal T (.agg (as.map (Value.int .u8)).toArray) (.agg (bs.map (Value.int .u8)).toArray)).run P w = .ok (as == bs) w := by
  obtain ⟨E, hT, hc, hI, hE, _⟩ := byteArr_of h
  show (Op.equalIn (9998 + 1 + 1) T _ _).run P w = _
  generalize 9998 = d
  obtain ⟨i, hi⟩ := Option.isSome_iff_exists.1 hI
  have hsz : (sizeOf E).run P w = .ok 1 w := by
    have : i.size = 1 := by have := hc; simp only [Program.cellsOf, hi] at this; simpa using this
    simp [sizeOf, typeInfo, hi, this]
  simp only [Op.equalIn, Sem.run_bind, run_underlying hT, Result.andThen_ok, hsz]
  have hpart : ∀ (l : List Int) (j : Nat) (x : Int), l[j]? = some x → (part E (l.map (Value.int .u8)).toArray (j * 1)).run P w = .ok (.int .u8 x) w := by
    intro l j x hx
    unfold part
    simp only [Sem.run_bind]
    have : (isAgg E).run P w = .ok false w := by simp [isAgg, run_underlying hE]
    rw [this]
    simp [hx]
  rw [Std.Legacy.Range.forIn_eq_forIn_range']
  simp only [Std.Legacy.Range.size, Nat.sub_zero, Nat.add_sub_cancel, Nat.div_one]
  have key : ∀ (as' bs' : List Int) (k : Nat), as'.length = bs'.length → (∀ j x, as'[j]? = some x → as[k + j]? = some x) → (∀ j x, bs'[j]? = some x → bs[k + j]? = some x) →
      ((do
        let r ← forIn (List.range' k as'.length 1) ((none : Option Bool), ()) fun i r => do
          let a ← part E (as.map (Value.int .u8)).toArray (i * 1)
          let b ← part E (bs.map (Value.int .u8)).toArray (i * 1)
          let q ← Op.equalIn (d + 1) E a b
          if (!q) = true then pure (ForInStep.done (some false, ())) else pure (ForInStep.yield (none, ()))
        match r.fst with
        | none => pure true
        | some a => pure a) : Sem Bool).run P w = .ok (as' == bs') w := by
    intro as'
    induction as' with
    | nil => 
      intro bs' k hl _ _
      cases bs' with
      | nil => simp
      | cons => simp at hl
    | cons x as' ih =>
      intro bs' k hl h1 h2
      cases bs' with
      | nil => simp at hl
      | cons y bs' =>
        have e1 := hpart as k x (by simpa using h1 0 x rfl)
        have e2 := hpart bs k y (by simpa using h2 0 y rfl)
        have ih' := ih bs' (k + 1) (by simpa using hl) (fun j z hz => by have := h1 (j + 1) z (by simpa using hz); rwa [show k + 1 + j = k + (j + 1) by omega]) (fun j z hz => by have := h2 (j + 1) z (by simpa using hz); rwa [show k + 1 + j = k + (j + 1) by omega])
        simp only [List.length_cons, List.range'_succ, List.forIn_cons, Sem.run_bind, e1, e2, Result.andThen_ok, run_equalIn_int w d E .u8 .u8 x y hE]
        by_cases hxy : x = y
        · subst hxy
          simp only [beq_self_eq_true, Bool.not_true, Bool.false_eq_true, if_false, Sem.run_pure, Result.andThen_ok]
          rw [show (x :: as' == x :: bs') = (as' == bs') by simp]
          rw [← ih', Sem.run_bind]
        · have : (x == y) = false := by simpa using hxy
          rw [this]
          simp [hxy]
  have := key as bs 0 (by rw [ha, hb]) (fun j x hx => by simpa using hx) (fun j x hx => by simpa using hx)
  rw [ha] at this
  rw [← this, Sem.run_bind]
  congr 1
  funext a w'
  obtain ⟨_ | r, _⟩ := a <;> simp
theorem ints_rep {w : World} {C : Ctx} : ∀ {l : List AV} {as : List Int} {vs : List Value}, intsOf l = some as → RepS w C l vs → vs = as.map (Value.int .u8)
  | [], _, _, h, hr => by
    simp only [intsOf, Option.some.injEq] at h
    subst h
    simpa [RepS] using hr
  | a :: l, as, vs, h, hr => by
    obtain ⟨v, r, rfl, _, h1, h2⟩ := hr
    unfold intsOf at h
    split at h
    · rename_i e; cases e
    · rename_i n l' e
      cases e
      obtain ⟨r', h3, h4⟩ := Option.bind_eq_some_iff.1 h
      cases h4
      simp only [Rep] at h1
      subst h1
      rw [ints_rep h3 h2]
      rfl
    · cases h
def pvBin (P : Program) (st : St) (op : BinOp) (T : TypeId) (x y : AV) : Option AV :=
  match x, y with
  | .int k a, .int k' b => intBin op k a k' b
  | .str a, .str b => strBin op a b
  | .bool a, .bool b => need (P.isBoolT T = true)
      (match op with
       | .eql => some (.bool (a == b))
       | .neq => some (.bool (!(a == b)))
       | _ => none)
  | .sl o nb _ _, .sl none true _ [] => need (st.alive o = true ∧ P.elemCells T ≠ 0)
      (match op with
       | .eql => some (.bool nb)
       | .neq => some (.bool (!nb))
       | _ => none)
  | .ptr _ _, .nilp => need (P.isPtrT T = true)
      (match op with
       | .eql => some (.bool false)
       | .neq => some (.bool true)
       | _ => none)
  | .nilp, .nilp => need (P.isPtrT T = true)
      (match op with
       | .eql => some (.bool true)
       | .neq => some (.bool false)
       | _ => none)
  | .agg xs, .agg ys => (intsOf xs).bind fun a => (intsOf ys).bind fun b => need (P.byteArr T a.length = true ∧ b.length = a.length)
      (match op with
       | .eql => some (.bool (a == b))
       | .neq => some (.bool (!(a == b)))
       | _ => none)
  | _, _ => none
theorem elemCells_slice {P : Program} {T : TypeId} (h : P.elemCells T ≠ 0) : ∃ E, P.underlying T = some (.slice E) := by
  unfold Program.elemCells at h
  split at h
  · exact ⟨_, by assumption⟩
  · exact absurd rfl h
theorem isBoolT_of {P : Program} {T : TypeId} (h : P.isBoolT T = true) : P.underlying T = some .bool := by
  unfold Program.isBoolT at h
  split at h
  · assumption
  · cases h
theorem isPtrT_of {P : Program} {T : TypeId} (h : P.isPtrT T = true) : ∃ E, P.underlying T = some (.pointer E) := by
  unfold Program.isPtrT at h
  split at h
  · exact ⟨_, by assumption⟩
  · cases h
theorem run_equal_bool {P : Program} {T : TypeId} (h : P.underlying T = some .bool) (a b : Bool) (w : World) : (Op.equal T (.bool a) (.bool b)).run P w = .ok (a == b) w := by
  show (Op.equalIn (9999 + 1) T (.bool a) (.bool b)).run P w = _
  generalize 9999 = d
  simp [Op.equalIn, run_underlying h]
theorem run_equal_slice {P : Program} {T E : TypeId} (h : P.underlying T = some (.slice E)) (a : Option Addr) (l c : Nat) (w : World) :
    (Op.equal T (.slice a l c) (.slice none 0 0)).run P w = .ok a.isNone w := by
  show (Op.equalIn (9999 + 1) T (.slice a l c) (.slice none 0 0)).run P w = _
  generalize 9999 = d
  cases a <;> simp [Op.equalIn, run_underlying h]
theorem run_equal_ptr {P : Program} {T E : TypeId} (h : P.underlying T = some (.pointer E)) (a : Option Addr) (w : World) :
    (Op.equal T (.pointer a) (.pointer none)).run P w = .ok a.isNone w := by
  show (Op.equalIn (9999 + 1) T (.pointer a) (.pointer none)).run P w = _
  generalize 9999 = d
  cases a <;> simp [Op.equalIn, run_underlying h]
theorem rep_sl_nb {w : World} {C : Ctx} {st : St} (hcons : ∀ g, st.cons g = true ↔ C.own g = .dead) {o : Option (Stamp × Nat)} {nb : Bool} {sz : Nat} {l : List AV} {u : Value}
    (h : Rep w C (.sl o nb sz l) u) (ha : st.alive o = true) : ∃ p c, u = .slice p l.length c ∧ p.isNone = nb := by
  cases o with
  | none =>
    rcases h with ⟨h0, h1, h2⟩ | ⟨h0, b, off, cap, vs, sp, h1, _⟩
    · subst h1; exact ⟨none, 0, h2, by simp [h0]⟩
    · exact ⟨_, _, h1, by simp [h0]⟩
  | some p =>
    obtain ⟨g, eo⟩ := p
    have hd : C.own g ≠ .dead := fun e => by
      have := (hcons g).2 e
      simp [St.alive, this] at ha
    rcases h with h | ⟨h0, h1, h2⟩ | ⟨h0, b, base, off, cap, vs, _, _, h1, _⟩
    · exact absurd h hd
    · subst h1; exact ⟨none, 0, h2, by simp [h0]⟩
    · exact ⟨_, _, h1, by simp [h0]⟩
theorem pvBin_ok {P : Program} {st : St} {op : BinOp} {T : TypeId} {x y v : AV} (h : pvBin P st op T x y = some v) {w : World} {C : Ctx}
    (hcons : ∀ g, st.cons g = true ↔ C.own g = .dead) (o1 o2 : Operand) {u1 u2 : Value} (h1 : Rep w C x u1) (h2 : Rep w C y u2) :
    ∃ u, ((do eqGuard op T o1 o2 u1 u2; binOp op T u1 u2) : Sem Value).run P w = .ok u w ∧ Rep w C v u := by
  unfold pvBin at h
  split at h
  · simp only [Rep] at h1 h2
    subst h1; subst h2
    obtain ⟨u, hu, hr⟩ := intBin_ok (P := P) h T o1 o2 w
    exact ⟨u, hu, hr C⟩
  · simp only [Rep] at h1 h2
    subst h1; subst h2
    obtain ⟨u, hu, hr⟩ := strBin_ok (P := P) h T o1 o2 w
    exact ⟨u, hu, hr C⟩
  · simp only [Rep] at h1 h2
    subst h1; subst h2
    obtain ⟨hT, h⟩ := need_some h
    replace hT := isBoolT_of hT
    rw [eqGuard_at_bool]
    split at h <;> cases h
    · exact ⟨_, by simp [binOp, run_equal_bool hT], rfl⟩
    · exact ⟨_, by simp [binOp, run_equal_bool hT], rfl⟩
  · obtain ⟨⟨ha, hE⟩, h⟩ := need_some h
    obtain ⟨E, hT⟩ := elemCells_slice hE
    obtain ⟨p, c, rfl, hp⟩ := rep_sl_nb hcons h1 ha
    have h2' : u2 = .slice none 0 0 := by
      rcases h2 with ⟨_, _, h2⟩ | ⟨h0, _⟩
      · exact h2
      · cases h0
    subst h2'
    rw [eqGuard_at_slice]
    split at h <;> cases h
    · exact ⟨.bool p.isNone, by simp [binOp, run_equal_slice hT], by simp [Rep, ← hp]⟩
    · exact ⟨.bool (!p.isNone), by simp [binOp, run_equal_slice hT], by simp [Rep, ← hp]⟩
  · obtain ⟨hT, h⟩ := need_some h
    obtain ⟨b, _, rfl⟩ := h1
    simp only [Rep] at h2
    subst h2
    obtain ⟨E, hE⟩ := isPtrT_of hT
    rw [eqGuard_at_pointer]
    split at h <;> cases h
    · exact ⟨_, by simp [binOp, run_equal_ptr hE], rfl⟩
    · exact ⟨_, by simp [binOp, run_equal_ptr hE], rfl⟩
  · obtain ⟨hT, h⟩ := need_some h
    simp only [Rep] at h1 h2
    subst h1; subst h2
    obtain ⟨E, hE⟩ := isPtrT_of hT
    rw [eqGuard_at_pointer]
    split at h <;> cases h
    · exact ⟨_, by simp [binOp, run_equal_ptr hE], rfl⟩
    · exact ⟨_, by simp [binOp, run_equal_ptr hE], rfl⟩
  · obtain ⟨as, h3, h⟩ := Option.bind_eq_some_iff.1 h
    obtain ⟨bs, h4, h⟩ := Option.bind_eq_some_iff.1 h
    obtain ⟨⟨hT, hl⟩, h⟩ := need_some h
    obtain ⟨va, rfl, h5⟩ := h1
    obtain ⟨vb, rfl, h6⟩ := h2
    obtain rfl := ints_rep h3 h5
    obtain rfl := ints_rep h4 h6
    obtain ⟨_, _, _, _, _, hg⟩ := byteArr_of hT
    have hq := run_equal_bytes hT rfl hl w
    split at h <;> cases h
    · exact ⟨_, by simp only [Sem.run_bind, run_eqGuard_agg w _ T o1 o2 _ _ hg, Result.andThen_ok, binOp, hq, Sem.run_pure], rfl⟩
    · exact ⟨_, by simp only [Sem.run_bind, run_eqGuard_agg w _ T o1 o2 _ _ hg, Result.andThen_ok, binOp, hq, Sem.run_pure], rfl⟩
  · cases h
end Go.VS
namespace Go.VS
set_option linter.unusedVariables false
set_option linter.unusedSimpArgs false
set_option linter.unusedSectionVars false
open Go
variable {P : Program}
def _root_.Go.Program.isAggT (P : Program) (T : TypeId) : Bool :=
  match P.underlying T with
  | some (.struct _) => true
  | some (.array _ _) => true
  | _ => false
def byteOf : AV → Option UInt8
  | .int .u8 n => some (UInt8.ofNat n.toNat)
  | _ => none
def bytesOf : List AV → Option (List UInt8)
  | [] => some []
  | a :: l => (byteOf a).bind fun b => (bytesOf l).bind fun r => some (b :: r)
/-- A byte as a value. -/
def u8 (c : UInt8) : AV := .int .u8 (c.toNat : Int)
@[simp] theorem byteOf_u8 (c : UInt8) : byteOf (u8 c) = some c := by simp [byteOf, u8]
@[simp] theorem bytesOf_u8 : ∀ (l : List UInt8), bytesOf (l.map u8) = some l
  | [] => rfl
  | c :: l => by simp [bytesOf, bytesOf_u8 l]
def pvUn (op : UnOp) (x : AV) : Option AV :=
  match op, x with
  | .not, .bool b => some (.bool (!b))
  | .neg, .int k n => some (.int k (k.wrap (0 - n)))
  | .xor, .int k n => some (.int k (bitop .xor k (if k.signed then -1 else k.max) n))
  | _, _ => none
theorem pvUn_ok {op : UnOp} {x v : AV} (h : pvUn op x = some v) {w : World} {C : Ctx} {u1 : Value} (h1 : Rep w C x u1) :
    ∃ u, (Op.unary op u1).run P w = .ok u w ∧ Rep w C v u := by
  unfold pvUn at h
  split at h <;> cases h <;> simp only [Rep] at h1 <;> subst h1
  · exact ⟨_, by simp [Op.unary], rfl⟩
  · exact ⟨_, by simp [Op.unary, Op.intArith], rfl⟩
  · exact ⟨_, by simp [Op.unary, Op.intBits, bitop], rfl⟩
/-- A row of runes. -/
def runesOf : List AV → Option (List Int)
  | [] => some []
  | .int .i32 n :: l => (runesOf l).map (n :: ·)
  | _ => none
theorem runes_row {w : World} {Sh : Nat → Prop} : ∀ {l : List AV} {vs : List Value} {ns : List Int}, RepRow w Sh 1 l vs → runesOf l = some ns → vs = ns.map (Value.int .i32)
  | [], _, _, h, hb => by
    simp only [RepRow] at h; simp only [runesOf, Option.some.injEq] at hb
    simp [h, ← hb]
  | a :: l, _, ns, h, hb => by
    obtain ⟨v, r, rfl, h1, h0, h2, h3⟩ := h
    unfold runesOf at hb
    split at hb
    · rename_i e; cases e
    · rename_i n l' e
      cases e
      simp only [Option.map_eq_some_iff] at hb
      obtain ⟨ms, hm, rfl⟩ := hb
      simp only [RepF] at h2
      subst h2
      simp [Value.cells, runes_row h3 hm]
    · cases hb
def pvConv (P : Program) (st : St) (src dst : TypeId) (x : AV) : Option AV :=
  match x with
  | .int _ n => need ((P.underlying src).isSome = true)
      (match P.underlying dst with
       | some (.int k) => some (.int k (k.wrap n))
       | some .string => some (.str (Utf8.encode n).data.toList)
       | _ => none)
  | .str l => need ((P.underlying src).isSome = true)
      (match P.underlying dst with
       | some .string => some (.str l)
       | _ => none)
  | .sl o _ sz l =>
      match P.underlying src, P.underlying dst with
      | some (.slice E), some .string =>
        match P.underlying E with
        | some (.int .u8) => need (st.alive o = true ∧ sz = 1) ((bytesOf l).map .str)
        | some (.int .i32) => need (st.alive o = true ∧ sz = 1) ((runesOf l).map fun ns => .str (runesBytes ns).data.toList)
        | _ => none
      | _, _ => none
  | _ => none
theorem bytes_row {w : World} {Sh : Nat → Prop} : ∀ {l : List AV} {vs : List Value} {bs : List UInt8}, RepRow w Sh 1 l vs → bytesOf l = some bs →
    ∃ ns : List Int, vs = ns.map (Value.int .u8) ∧ bs = ns.map (fun n => UInt8.ofNat n.toNat)
  | [], _, _, h, hb => by
    simp only [RepRow] at h; simp only [bytesOf, Option.some.injEq] at hb
    exact ⟨[], by simp [h], by simp [← hb]⟩
  | a :: l, _, _, h, hb => by
    obtain ⟨v, r, rfl, h1, h0, h2, h3⟩ := h
    simp only [bytesOf, Option.bind_eq_some_iff] at hb
    obtain ⟨b, hb1, r', hr', hb2⟩ := hb
    cases hb2
    obtain ⟨ns, rfl, rfl⟩ := bytes_row h3 hr'
    unfold byteOf at hb1
    split at hb1 <;> cases hb1
    rename_i n
    simp only [RepF] at h2
    subst h2
    exact ⟨n :: ns, by simp [Value.cells], by simp⟩
theorem foldl_push : ∀ (ns : List Int) (s : ByteArray), ns.foldl (fun r n => r.push (UInt8.ofNat n.toNat)) s = ⟨s.data ++ (ns.map (fun n => UInt8.ofNat n.toNat)).toArray⟩
  | [], s => by apply ByteArray.ext; simp
  | n :: ns, s => by
    rw [List.foldl_cons, foldl_push ns]
    apply ByteArray.ext
    simp [ByteArray.push]
/-- A slice that may be read. -/
theorem rep_sl_read {w : World} {C : Ctx} {st : St} (hcons : ∀ g, st.cons g = true ↔ C.own g = .dead) {o : Option (Stamp × Nat)} {nb : Bool} {sz : Nat} {l : List AV} {u : Value}
    (h : Rep w C (.sl o nb sz l) u) (ha : st.alive o = true) :
    (nb = true ∧ l = [] ∧ u = .slice none 0 0) ∨ (nb = false ∧ ∃ b off cap vs sp, u = .slice (some ⟨b, off, sp⟩) l.length cap ∧ l.length ≤ cap ∧ (vs = [] ∨ sp = none) ∧ cellsAt w b off vs ∧ RepRow w C.Sh sz l vs) := by
  cases o with
  | none =>
    rcases h with h | ⟨h0, b, off, cap, vs, sp, h1, h2, h3, h4⟩
    · exact .inl h
    · refine .inr ⟨h0, b, off, cap, vs, sp, h1, h2, ?_⟩
      rcases h3 with rfl | ⟨h3, _, h5⟩
      · have e : vs = [] := by
          have := h4.length
          exact List.eq_nil_of_length_eq_zero (by rw [this, Nat.le_zero.1 h2, Nat.zero_mul])
        exact ⟨.inl e, by subst e; exact fun j v hj => by simp at hj, h4⟩
      · exact ⟨.inr h3, h5, h4⟩
  | some p =>
    obtain ⟨g, eo⟩ := p
    rcases h with h | h | ⟨h0, b, base, off, cap, vs, _, _, h1, h2, h3, h4, _⟩
    · have := (hcons g).2 h
      simp [St.alive, this] at ha
    · exact .inl h
    · exact .inr ⟨h0, b, off, cap, vs, none, h1, h2, .inr rfl, h3, h4⟩
theorem pvConv_ok {st : St} {src dst : TypeId} {x v : AV} (h : pvConv P st src dst x = some v) {w : World} {C : Ctx} (hcons : ∀ g, st.cons g = true ↔ C.own g = .dead)
    {u1 : Value} (h1 : Rep w C x u1) : ∃ u, (convert src dst u1).run P w = .ok u w ∧ Rep w C v u := by
  unfold pvConv at h
  split at h
  · obtain ⟨hs, h⟩ := need_some h
    obtain ⟨ds, hs⟩ := Option.isSome_iff_exists.1 hs
    simp only [Rep] at h1; subst h1
    split at h <;> cases h
    · rename_i k hk
      exact ⟨_, by simp [convert, run_underlying hs, run_underlying hk, Conv.intToInt], rfl⟩
    · rename_i hk
      exact ⟨.string (Utf8.encode _), by simp [convert, run_underlying hs, run_underlying hk, Conv.intToString]; rfl, by simp [Rep]⟩
  · obtain ⟨hs, h⟩ := need_some h
    obtain ⟨ds, hs⟩ := Option.isSome_iff_exists.1 hs
    simp only [Rep] at h1; subst h1
    split at h <;> cases h
    rename_i hk
    exact ⟨_, by simp [convert, run_underlying hs, run_underlying hk], rfl⟩
  · split at h
    · rename_i E hs hd
      split at h
      · rename_i he
        obtain ⟨⟨ha, hsz⟩, h'⟩ := need_some h
        subst hsz
        simp only [Option.map_eq_some_iff] at h'
        obtain ⟨bs, hbs, rfl⟩ := h'
        rcases rep_sl_read hcons h1 ha with ⟨_, rfl, rfl⟩ | ⟨_, b, off, cap, vs, sp, rfl, _, hsp, hc, hr⟩
        · simp only [bytesOf, Option.some.injEq] at hbs; subst hbs
          exact ⟨.string .empty, by rw [run_convert_bytes_string w src dst E none 0 0 hs he hd]; simp [Conv.bytesToString], rfl⟩
        · obtain ⟨ns, rfl, rfl⟩ := bytes_row hr hbs
          have hlen : (ns.map (Value.int .u8)).length = (‹List AV› : List AV).length := by have := hr.length; simpa using this
          have hl := run_loadCells_list (P := P) w ⟨b, off, sp⟩ (ns.map (Value.int .u8)) (fun j v hv => by
            rcases hsp with hsp | rfl
            · rw [hsp] at hv; simp at hv
            · rw [Addr.add_mid]; exact hc j v hv)
          rw [hlen] at hl
          refine ⟨.string ⟨(ns.map (fun n : Int => UInt8.ofNat n.toNat)).toArray⟩, ?_, rfl⟩
          rw [run_convert_bytes_string w src dst E _ _ _ hs he hd, run_bytesToString w _ _ cap ns hl, foldl_push]
          congr 2
          apply ByteArray.ext
          simp
      · rename_i he
        obtain ⟨⟨ha, hsz⟩, h'⟩ := need_some h
        subst hsz
        simp only [Option.map_eq_some_iff] at h'
        obtain ⟨ns, hns, rfl⟩ := h'
        rcases rep_sl_read hcons h1 ha with ⟨_, rfl, rfl⟩ | ⟨_, b, off, cap, vs, sp, rfl, _, hsp, hc, hr⟩
        · simp only [runesOf, Option.some.injEq] at hns; subst hns
          exact ⟨.string .empty, run_convert_runes_nil w src dst E 0 0 hs he hd, rfl⟩
        · obtain rfl := runes_row hr hns
          have hlen : (ns.map (Value.int .i32)).length = (‹List AV› : List AV).length := by have := hr.length; simpa using this
          have hl := run_loadCells_list (P := P) w ⟨b, off, sp⟩ (ns.map (Value.int .i32)) (fun j v hv => by
            rcases hsp with hsp | rfl
            · rw [hsp] at hv; simp at hv
            · rw [Addr.add_mid]; exact hc j v hv)
          rw [hlen] at hl
          refine ⟨.string (runesBytes ns), ?_, ?_⟩
          · rw [run_convert_runes_string w src dst E _ _ _ hs he hd, run_runesToString w _ _ cap ns hl]
          · simp only [Rep]
      · cases h
    · cases h
  · cases h
def pvPart (P : Program) (T : TypeId) (cs : List AV) (off : Nat) : Option AV :=
  if P.isAggT T = true then need (off + P.cellsOf T ≤ cs.length) (some (.agg ((cs.drop off).take (P.cellsOf T)))) else cs[off]?
theorem run_isAgg {T : TypeId} (h : (P.underlying T).isSome = true) (w : World) : (isAgg T).run P w = .ok (P.isAggT T) w := by
  obtain ⟨d, hd⟩ := Option.isSome_iff_exists.1 h
  unfold isAgg Program.isAggT
  rw [Sem.run_bind, run_underlying hd w, hd]
  cases d <;> simp
theorem run_sizeOf {T : TypeId} (h : (P.info? T).isSome = true) (w : World) : (sizeOf T).run P w = .ok (P.cellsOf T) w := by
  obtain ⟨d, hd⟩ := Option.isSome_iff_exists.1 h
  simp [sizeOf, typeInfo, Program.cellsOf, hd]
theorem pvPart_ok {T : TypeId} {cs : List AV} {off : Nat} {v : AV} (h : pvPart P T cs off = some v) (hT : (P.underlying T).isSome = true) (hI : (P.info? T).isSome = true)
    {w : World} {C : Ctx} {vs : List Value} (hr : RepS w C cs vs) : ∃ u, (part T vs.toArray off).run P w = .ok u w ∧ Rep w C v u := by
  unfold pvPart at h
  split at h
  · rename_i ha
    obtain ⟨hl, h⟩ := need_some h
    cases h
    refine ⟨.agg (vs.toArray.extract off (off + P.cellsOf T)), by simp [part, run_isAgg hT, run_sizeOf hI, ha], ((vs.drop off).take (P.cellsOf T)), ?_, (hr.drop off).take _⟩
    congr 1
    apply Array.ext'
    simp [List.take_drop]
  · rename_i ha
    obtain ⟨u, h1, _, h2⟩ := hr.get h
    exact ⟨u, by simp [part, run_isAgg hT, ha, h1], h2⟩
def pvField (P : Program) (S : TypeId) (x : AV) (f : Nat) : Option AV :=
  match x with
  | .agg cs =>
    match P.underlying S with
    | some (.struct fs) =>
      match fs[f]? with
      | some fd => need ((P.underlying fd.type).isSome = true ∧ (P.info? fd.type).isSome = true) (pvPart P fd.type cs fd.offset)
      | none => none
    | _ => none
  | _ => none
theorem pvField_ok {S : TypeId} {x v : AV} {f : Nat} (h : pvField P S x f = some v) {w : World} {C : Ctx} {u1 : Value} (h1 : Rep w C x u1) :
    ∃ u, (Instr.field S u1 f).run P w = .ok u w ∧ Rep w C v u := by
  unfold pvField at h
  split at h
  · split at h
    · rename_i cs fs hS
      split at h
      · rename_i fd hf
        obtain ⟨⟨hT, hI⟩, h⟩ := need_some h
        obtain ⟨vs, rfl, hr⟩ := h1
        obtain ⟨u, hu, hv⟩ := pvPart_ok h hT hI hr
        exact ⟨u, by simp [Instr.field, run_underlying hS, hf, asAgg, hu], hv⟩
      · cases h
    · cases h
  · cases h
/-- An index into an array that is a value, or a text. -/
def pvIndex (P : Program) (T : TypeId) (x i : AV) : Option AV :=
  match x, i with
  | .agg cs, .int _ n =>
    match P.underlying T with
    | some (.array len E) => need (0 ≤ n ∧ n < len ∧ (P.underlying E).isSome = true ∧ (P.info? E).isSome = true) (pvPart P E cs (n.toNat * P.cellsOf E))
    | _ => none
  | .str l, .int _ n =>
    match P.underlying T with
    | some .string => need (0 ≤ n) ((l[n.toNat]?).map u8)
    | _ => none
  | _, _ => none
theorem pvIndex_ok {T : TypeId} {x i v : AV} (h : pvIndex P T x i = some v) {w : World} {C : Ctx} {u1 u2 : Value} (h1 : Rep w C x u1) (h2 : Rep w C i u2) :
    ∃ u, (Instr.index T u1 u2).run P w = .ok u w ∧ Rep w C v u := by
  unfold pvIndex at h
  split at h
  · split at h
    · rename_i hT
      obtain ⟨⟨h0, hn, hE, hI⟩, h⟩ := need_some h
      obtain ⟨vs, rfl, hr⟩ := h1
      simp only [Rep] at h2; subst h2
      obtain ⟨u, hu, hv⟩ := pvPart_ok h hE hI hr
      exact ⟨u, by simp [Instr.index, run_underlying hT, asIntOf, h0, hn, run_sizeOf hI, hu], hv⟩
    · cases h
  · split at h
    · rename_i hT
      obtain ⟨h0, h⟩ := need_some h
      simp only [Option.map_eq_some_iff] at h
      obtain ⟨c, hc, rfl⟩ := h
      simp only [Rep] at h1 h2; subst h1; subst h2
      refine ⟨.int .u8 c.toNat, ?_, rfl⟩
      have hlt := (List.getElem?_eq_some_iff.1 hc).1
      have : (⟨(‹List UInt8› : List UInt8).toArray⟩ : ByteArray)[(‹Int› : Int).toNat]? = some c := by
        have e := (List.getElem?_eq_some_iff.1 hc).2
        rw [getElem?_pos _ _ (by simpa [ByteArray.size] using hlt)]
        rw [← e]
        rfl
      simp [Instr.index, run_underlying hT, asIntOf, h0, this]
    · cases h
  · cases h
end Go.VS
namespace Go.VS
set_option linter.unusedVariables false
set_option linter.unusedSimpArgs false
set_option linter.unusedSectionVars false
open Go
variable {P : Program}
def pvFieldAddr (P : Program) (st : St) (S : TypeId) (x : AV) (f : Nat) : Option AV :=
  match P.underlying S with
  | some (.struct fs) =>
    match fs[f]? with
    | some fd => need ((P.info? fd.type).isSome = true ∧ P.cellsOf fd.type ≠ 0)
        (match x with
         | .ptr id off => some (.ptr id (off + fd.offset))
         | .eptr o sz l i off => need (st.alive o = true ∧ off + fd.offset < sz) (some (.eptr o sz l i (off + fd.offset)))
         | _ => none)
    | none => none
  | _ => none
theorem Addr.add_plain (b o n : Nat) : Addr.add ⟨b, o, none⟩ n = ⟨b, o + n, none⟩ := by
  unfold Addr.add; split <;> simp_all
theorem run_fieldAt {S : TypeId} {fs : Array Field} {f : Nat} {fd : Field} (hS : P.underlying S = some (.struct fs)) (hf : fs[f]? = some fd) (hI : (P.info? fd.type).isSome = true)
    (h0 : P.cellsOf fd.type ≠ 0) (b o : Nat) (w : World) : (Instr.fieldAt S (.pointer (some ⟨b, o, none⟩)) f).run P w = .ok (.pointer (some ⟨b, o + fd.offset, none⟩)) w := by
  simp [Instr.fieldAt, run_underlying hS, hf, Instr.sureAddr, fieldPlace, run_sizeOf hI, h0, Addr.add_plain]
/-- An element's address that may be used. -/
theorem rep_eptr_read {w : World} {C : Ctx} {st : St} (hcons : ∀ g, st.cons g = true ↔ C.own g = .dead) {o : Option (Stamp × Nat)} {sz : Nat} {l : List AV} {i off : Nat} {u : Value}
    (h : Rep w C (.eptr o sz l i off) u) (ha : st.alive o = true) :
    ∃ b o' vs, u = .pointer (some ⟨b, o' + i * sz + off, none⟩) ∧ i < l.length ∧ off < sz ∧ cellsAt w b o' vs ∧ RepRow w C.Sh sz l vs ∧
      (∀ off' , off' < sz → Rep w C (.eptr o sz l i off') (.pointer (some ⟨b, o' + i * sz + off', none⟩))) := by
  cases o with
  | none =>
    obtain ⟨b, o', vs, h1, h2, h3, h4, h5, h6⟩ := h
    exact ⟨b, o', vs, h1, h2, h3, h5, h6, fun off' ho => ⟨b, o', vs, rfl, h2, ho, h4, h5, h6⟩⟩
  | some p =>
    obtain ⟨g, eo⟩ := p
    rcases h with h | ⟨b, base, vs, h0, h1, h2, h3, h4, h5, h7⟩
    · have := (hcons g).2 h
      simp [St.alive, this] at ha
    · exact ⟨b, base + eo * sz, vs, h1, h2, h3, h4, h5, fun off' ho => .inr ⟨b, base, vs, h0, rfl, h2, ho, h4, h5, h7⟩⟩
theorem pvFieldAddr_ok {st : St} {S : TypeId} {x v : AV} {f : Nat} (h : pvFieldAddr P st S x f = some v) {w : World} {C : Ctx} (hcons : ∀ g, st.cons g = true ↔ C.own g = .dead)
    {u1 : Value} (h1 : Rep w C x u1) : ∃ u, (Instr.fieldAt S u1 f).run P w = .ok u w ∧ Rep w C v u := by
  unfold pvFieldAddr at h
  split at h
  · rename_i fs hS
    split at h
    · rename_i fd hf
      obtain ⟨⟨hI, h0⟩, h'⟩ := need_some h
      split at h'
      · cases h'
        obtain ⟨b, hb, rfl⟩ := h1
        exact ⟨_, run_fieldAt hS hf hI h0 _ _ w, b, hb, rfl⟩
      · obtain ⟨⟨ha, ho⟩, h''⟩ := need_some h'
        cases h''
        obtain ⟨b, o', vs, rfl, h2, h3, h4, h5, h6⟩ := rep_eptr_read hcons h1 ha
        exact ⟨_, run_fieldAt hS hf hI h0 _ _ w, by rw [Nat.add_assoc]; exact h6 _ ho⟩
      · cases h'
    · cases h
  · cases h
def pvIndexAddr (P : Program) (st : St) (T : TypeId) (x i : AV) : Option AV :=
  match i with
  | .int _ n =>
    match P.underlying T with
    | some (.slice E) =>
      match x with
      | .sl o _ sz l => need (st.alive o = true ∧ 0 ≤ n ∧ n < l.length ∧ P.cellsOf E = sz ∧ 0 < sz ∧ (P.info? E).isSome = true) (some (.eptr o sz l n.toNat 0))
      | .bsl id off len _ => need (0 ≤ n ∧ n < len ∧ P.cellsOf E = 1 ∧ (P.info? E).isSome = true) (some (.ptr id (off + n.toNat)))
      | _ => none
    | some (.array len E) =>
      match x with
      | .ptr id off => need (0 ≤ n ∧ n < len ∧ (P.info? E).isSome = true) (some (.ptr id (off + n.toNat * P.cellsOf E)))
      | .eptr o sz l j off => need (st.alive o = true ∧ 0 ≤ n ∧ n < len ∧ (P.info? E).isSome = true ∧ off + n.toNat * P.cellsOf E < sz) (some (.eptr o sz l j (off + n.toNat * P.cellsOf E)))
      | _ => none
    | _ => none
  | _ => none
theorem run_indexAt_slice {T E : TypeId} (hT : P.underlying T = some (.slice E)) (hI : (P.info? E).isSome = true) (b o len cap : Nat) (k : IntKind) (n : Int) (h0 : 0 ≤ n) (h1 : n < len) (w : World) :
    (Instr.indexAt T (.slice (some ⟨b, o, none⟩) len cap) (.int k n)).run P w = .ok (.pointer (some ⟨b, o + n.toNat * P.cellsOf E, none⟩)) w := by
  simp [Instr.indexAt, run_underlying hT, asIntOf, h0, h1, run_sizeOf hI, Addr.add_plain]
theorem run_indexAt_array {T E : TypeId} {len : Nat} (hT : P.underlying T = some (.array len E)) (hI : (P.info? E).isSome = true) (b o : Nat) (k : IntKind) (n : Int) (h0 : 0 ≤ n) (h1 : n < len) (w : World) :
    (Instr.indexAt T (.pointer (some ⟨b, o, none⟩)) (.int k n)).run P w = .ok (.pointer (some ⟨b, o + n.toNat * P.cellsOf E, none⟩)) w := by
  simp [Instr.indexAt, run_underlying hT, asIntOf, h0, h1, run_sizeOf hI, Addr.add_plain, Instr.sureAddr]
theorem rep_sl_elem {w : World} {C : Ctx} {st : St} (hcons : ∀ g, st.cons g = true ↔ C.own g = .dead) {o : Option (Stamp × Nat)} {nb : Bool} {sz : Nat} {l : List AV} {u : Value}
    (h : Rep w C (.sl o nb sz l) u) (ha : st.alive o = true) {i : Nat} (hi : i < l.length) (hsz : 0 < sz) :
    ∃ b off cap, u = .slice (some ⟨b, off, none⟩) l.length cap ∧ Rep w C (.eptr o sz l i 0) (.pointer (some ⟨b, off + i * sz, none⟩)) := by
  cases o with
  | none =>
    rcases h with ⟨_, h, _⟩ | ⟨h0, b, off, cap, vs, sp, h1, h2, h5, h4⟩
    · rw [h] at hi; simp at hi
    · obtain ⟨rfl, hs, h3⟩ := h5.resolve_left (by omega)
      exact ⟨b, off, cap, h1, b, off, vs, rfl, hi, hsz, hs, h3, h4⟩
  | some p =>
    obtain ⟨g, eo⟩ := p
    rcases h with h | ⟨_, h, _⟩ | ⟨h0, b, base, off, cap, vs, hg, hoff, h1, h2, h3, h4, h5⟩
    · have := (hcons g).2 h
      simp [St.alive, this] at ha
    · rw [h] at hi; simp at hi
    · obtain rfl : off = base + eo * sz := hoff.resolve_right (by omega)
      exact ⟨b, _, cap, h1, .inr ⟨b, base, vs, hg, rfl, hi, hsz, h3, h4, h5.le (Nat.add_le_add_left (Nat.mul_le_mul_right _ h2) _)⟩⟩
theorem pvIndexAddr_ok {st : St} {T : TypeId} {x i v : AV} (h : pvIndexAddr P st T x i = some v) {w : World} {C : Ctx} (hcons : ∀ g, st.cons g = true ↔ C.own g = .dead)
    {u1 u2 : Value} (h1 : Rep w C x u1) (h2 : Rep w C i u2) : ∃ u, (Instr.indexAt T u1 u2).run P w = .ok u w ∧ Rep w C v u := by
  unfold pvIndexAddr at h
  split at h
  · simp only [Rep] at h2; subst h2
    split at h
    · rename_i E hT
      split at h
      · obtain ⟨⟨ha, h0, hn, hE, hsz, hI⟩, h'⟩ := need_some h
        cases h'
        obtain ⟨b, off, cap, rfl, hr⟩ := rep_sl_elem hcons h1 ha (i := (‹Int› : Int).toNat) (by omega) hsz
        exact ⟨_, run_indexAt_slice hT hI _ _ _ _ _ _ h0 hn w, by rw [hE]; exact hr⟩
      · obtain ⟨⟨h0, hn, hE, hI⟩, h'⟩ := need_some h
        cases h'
        obtain ⟨b, hb, rfl, _⟩ := h1
        exact ⟨_, run_indexAt_slice hT hI _ _ _ _ _ _ h0 hn w, b, hb, by rw [hE, Nat.mul_one]⟩
      · cases h
    · rename_i len E hT
      split at h
      · obtain ⟨⟨h0, hn, hI⟩, h'⟩ := need_some h
        cases h'
        obtain ⟨b, hb, rfl⟩ := h1
        exact ⟨_, run_indexAt_array hT hI _ _ _ _ h0 hn w, b, hb, rfl⟩
      · obtain ⟨⟨ha, h0, hn, hI, ho⟩, h'⟩ := need_some h
        cases h'
        obtain ⟨b, o', vs, rfl, h2, h3, h4, h5, h6⟩ := rep_eptr_read hcons h1 ha
        exact ⟨_, run_indexAt_array hT hI _ _ _ _ h0 hn w, by rw [Nat.add_assoc]; exact h6 _ ho⟩
      · cases h
    · cases h
  · cases h
theorem run_loadAt_agg {T : TypeId} (ha : P.isAggT T = true) (hI : (P.info? T).isSome = true) {w : World} {b off : Nat} {vs : List Value} (hc : cellsAt w b off vs) (hl : vs.length = P.cellsOf T) :
    (Instr.loadAt T (.pointer (some ⟨b, off, none⟩))).run P w = .ok (.agg vs.toArray) w := by
  obtain ⟨i, hi⟩ := Option.isSome_iff_exists.1 hI
  have hs : (P.info? T).map (·.size) = some vs.length := by
    rw [hl]; simp [Program.cellsOf, hi]
  unfold Program.isAggT at ha
  split at ha
  · rename_i d hd
    exact run_loadAt_mid w b off T vs _ hc hd rfl hs
  · rename_i d e hd
    exact run_loadAt_mid w b off T vs _ hc hd rfl hs
  · cases ha
theorem run_loadAt_one {T : TypeId} (ha : P.isAggT T = false) (hT : (P.underlying T).isSome = true) {w : World} {b off : Nat} {v : Value} (hc : w.cell? ⟨b, off, none⟩ = some v) :
    (Instr.loadAt T (.pointer (some ⟨b, off, none⟩))).run P w = .ok v w := by
  simp [Instr.loadAt, Instr.sureAddr, loadVar, run_isAgg hT, ha, hc]
def pvLoad (P : Program) (st : St) (T : TypeId) (x : AV) : Option AV :=
  match x with
  | .ptr id off => need ((P.underlying T).isSome = true ∧ (P.info? T).isSome = true) ((st.bx id).bind fun cs => pvPart P T cs off)
  | .eptr o sz l i off => need ((P.underlying T).isSome = true ∧ (P.info? T).isSome = true ∧ st.alive o = true)
      ((l[i]?).bind fun e => need (e.cells.length = sz) (pvPart P T e.cells off))
  | _ => none
theorem RepS_of_box {w : World} {C : Ctx} {id : Nat} {cs : List AV} (h : BoxAt w C id cs) : ∃ b vs, C.box id = some b ∧ cellsAt w b 0 vs ∧ RepS w C cs vs := by
  obtain ⟨b, c, e, lo, hi, h1, h2, h3, h4⟩ := h
  refine ⟨b, c.toList, h1, fun j v hj => ?_, h4⟩
  simp only [World.cell?, h2, Nat.zero_add]
  simpa using hj
theorem load_part {T : TypeId} {cs : List AV} {off : Nat} {v : AV} (h : pvPart P T cs off = some v) (hT : (P.underlying T).isSome = true) (hI : (P.info? T).isSome = true)
    {w : World} {C : Ctx} {b o : Nat} {vs : List Value} (hc : cellsAt w b o vs) (hr : RepS w C cs vs) :
    ∃ u, (Instr.loadAt T (.pointer (some ⟨b, o + off, none⟩))).run P w = .ok u w ∧ Rep w C v u := by
  unfold pvPart at h
  split at h
  · rename_i ha
    obtain ⟨hl, h'⟩ := need_some h
    cases h'
    have hlen := hr.length
    refine ⟨_, run_loadAt_agg ha hI ((hc.drop off).take (P.cellsOf T)) (by simp; omega), _, rfl, (hr.drop off).take _⟩
  · rename_i ha
    obtain ⟨u, h1, _, h2⟩ := hr.get h
    exact ⟨u, run_loadAt_one (by simpa using ha) hT (hc off u h1), h2⟩
theorem pvLoad_ok {st : St} {T : TypeId} {x v : AV} (h : pvLoad P st T x = some v) {w : World} {C : Ctx} (hcons : ∀ g, st.cons g = true ↔ C.own g = .dead)
    (hbox : ∀ id cs, st.bx id = some cs → BoxAt w C id cs) {u1 : Value} (h1 : Rep w C x u1) : ∃ u, (Instr.loadAt T u1).run P w = .ok u w ∧ Rep w C v u := by
  unfold pvLoad at h
  split at h
  · obtain ⟨⟨hT, hI⟩, h'⟩ := need_some h
    obtain ⟨cs, hcs, h''⟩ := Option.bind_eq_some_iff.1 h'
    obtain ⟨b, hb, rfl⟩ := h1
    obtain ⟨b', vs, hb', hc, hr⟩ := RepS_of_box (hbox _ _ hcs)
    obtain rfl : b = b' := by rw [hb] at hb'; exact Option.some.inj hb'
    have := load_part h'' hT hI hc hr
    simpa using this
  · rename_i o sz l i off
    obtain ⟨⟨hT, hI, ha⟩, h'⟩ := need_some h
    obtain ⟨e, he, h''⟩ := Option.bind_eq_some_iff.1 h'
    obtain ⟨hl, h3⟩ := need_some h''
    obtain ⟨b, o', vs, rfl, _, _, h4, h5, _⟩ := rep_eptr_read hcons h1 ha
    obtain ⟨ve, hv1, hv2, hv3, hv4⟩ := h5.get he
    have hc : cellsAt w b (o' + i * sz) ve.cells.toList := by rw [hv1]; exact (h4.drop _).take _
    exact load_part h3 hT hI hc (RepS.of_shared _ _ (hv4.cells (by rw [hv2, hl]) hv3))
  · cases h
end Go.VS
namespace Go.VS
set_option linter.unusedVariables false
set_option linter.unusedSimpArgs false
set_option linter.unusedSectionVars false
open Go
variable {P : Program}
def natOf : AV → Option Nat
  | .int _ n => need (0 ≤ n) (some n.toNat)
  | _ => none
theorem natOf_rep {a : AV} {n : Nat} (h : natOf a = some n) {w : World} {C : Ctx} {u : Value} (hr : Rep w C a u) : ∃ k z, u = .int k z ∧ 0 ≤ z ∧ z.toNat = n := by
  unfold natOf at h
  split at h
  · obtain ⟨h0, h'⟩ := need_some h
    cases h'
    simp only [Rep] at hr
    exact ⟨_, _, hr, h0, rfl⟩
  · cases h
/-- The bounds of a slice expression over what has 'len' elements: from where, to where, and (if it is said) the last that it may grow to. -/
def bnds (len : Nat) (lo hi mx : Option AV) : Option (Nat × Nat × Option Nat) :=
  (match lo with | none => some 0 | some a => natOf a).bind fun l =>
  (match hi with | none => some len | some a => natOf a).bind fun h =>
  (match mx with | none => some none | some a => (natOf a).map some).bind fun m =>
  need (l ≤ h ∧ h ≤ len ∧ (∀ k ∈ m, h ≤ k ∧ k ≤ len) ∧ (m.isSome = true → hi.isSome = true)) (some (l, h, m))
inductive RepO (w : World) (C : Ctx) : Option AV → Option Value → Prop
  | none : RepO w C none none
  | some {a : AV} {u : Value} (h : Rep w C a u) : RepO w C (some a) (some u)
theorem run_sliceBound {k : IntKind} {z : Int} {y : Nat} (h0 : 0 ≤ z) (h1 : z.toNat ≤ y) (c : BoundsCode) (w : World) : (Instr.sliceBound (.int k z) y c).run P w = .ok z.toNat w := by
  have : z ≤ (y : Int) := by omega
  simp [Instr.sliceBound, asIntOf, h0, this]
theorem run_bnds {len cap : Nat} {lo hi mx : Option AV} {l h : Nat} {m : Option Nat} (hb : bnds len lo hi mx = some (l, h, m)) (hc : len ≤ cap) (isS : Bool) {w : World} {C : Ctx}
    {lo' hi' mx' : Option Value} (h1 : RepO w C lo lo') (h2 : RepO w C hi hi') (h3 : RepO w C mx mx') :
    (Instr.sliceBounds isS len cap lo' hi' mx').run P w = .ok (l, h, m.getD cap) w ∧ l ≤ h ∧ h ≤ len ∧ h ≤ m.getD cap ∧ m.getD cap ≤ cap ∧ (m.isSome = true → m.getD cap ≤ len) := by
  unfold bnds at hb
  obtain ⟨l', hl, hb⟩ := Option.bind_eq_some_iff.1 hb
  obtain ⟨h', hh, hb⟩ := Option.bind_eq_some_iff.1 hb
  obtain ⟨m', hm, hb⟩ := Option.bind_eq_some_iff.1 hb
  obtain ⟨⟨c1, c2, c3, c4⟩, hb⟩ := need_some hb
  cases hb
  cases h3 with
  | none =>
    cases hm
    refine ⟨?_, c1, c2, by simp; omega, by simp, by simp⟩
    cases h2 with
    | none =>
      cases hh
      cases h1 with
      | none => cases hl; simp [Instr.sliceBounds]
      | some hr =>
        obtain ⟨k, z, rfl, z0, rfl⟩ := natOf_rep hl hr
        simp [Instr.sliceBounds, run_sliceBound z0 c1]
    | some hr =>
      obtain ⟨k, z, rfl, z0, rfl⟩ := natOf_rep hh hr
      cases h1 with
      | none => cases hl; simp [Instr.sliceBounds, run_sliceBound z0 (Nat.le_trans c2 hc)]
      | some hr =>
        obtain ⟨k, z', rfl, z0', rfl⟩ := natOf_rep hl hr
        simp [Instr.sliceBounds, run_sliceBound z0 (Nat.le_trans c2 hc), run_sliceBound z0' c1]
  | some hr =>
    obtain ⟨m'', hm', rfl⟩ := Option.map_eq_some_iff.1 hm
    obtain ⟨k, z, rfl, z0, rfl⟩ := natOf_rep hm' hr
    obtain ⟨d1, d2⟩ := c3 _ rfl
    refine ⟨?_, c1, c2, by simpa using d1, by simp; omega, fun _ => by simpa using d2⟩
    cases h2 with
    | none => simp at c4
    | some hr2 =>
      obtain ⟨k2, z2, rfl, z20, rfl⟩ := natOf_rep hh hr2
      cases h1 with
      | none => cases hl; simp [Instr.sliceBounds, run_sliceBound z0 (Nat.le_trans d2 hc), run_sliceBound z20 d1]
      | some hr3 =>
        obtain ⟨k3, z3, rfl, z30, rfl⟩ := natOf_rep hl hr3
        simp [Instr.sliceBounds, run_sliceBound z0 (Nat.le_trans d2 hc), run_sliceBound z20 d1, run_sliceBound z30 c1]
def ownAt (o : Option (Stamp × Nat)) (n : Nat) : Option (Stamp × Nat) :=
  match o with
  | none => none
  | some (g, eo) => some (g, eo + n)
def pvSlice (P : Program) (st : St) (T : TypeId) (x : AV) (lo hi mx : Option AV) : Option AV :=
  match P.underlying T with
  | some .string =>
    match x, mx with
    | .str l, none => (bnds l.length lo hi none).bind fun b => some (.str ((l.drop b.1).take (b.2.1 - b.1)))
    | _, _ => none
  | some (.slice E) =>
    match x with
    | .sl o nb sz l => need (st.alive o = true ∧ P.cellsOf E = sz ∧ (P.info? E).isSome = true)
        ((bnds l.length lo hi mx).bind fun b => some (.sl (ownAt o b.1) nb sz ((l.drop b.1).take (b.2.1 - b.1))))
    | .bsl id off len cap => need (P.cellsOf E = 1 ∧ (P.info? E).isSome = true)
        ((bnds len lo hi mx).bind fun b => need (b.1 < b.2.2.getD cap ∨ b.1 = 0) (some (.bsl id (off + b.1) (b.2.1 - b.1) (b.2.2.getD cap - b.1))))
    | _ => none
  | some (.array n E) =>
    match x with
    | .ptr id off => need (P.cellsOf E = 1 ∧ (P.info? E).isSome = true)
        ((bnds n lo hi mx).bind fun b => need (b.1 < b.2.2.getD n ∨ b.1 = 0) (some (.bsl id (off + b.1) (b.2.1 - b.1) (b.2.2.getD n - b.1))))
    | _ => none
  | _ => none
theorem run_slice_of {T E : TypeId} (hT : P.underlying T = some (.slice E)) (hI : (P.info? E).isSome = true) {a : Option Addr} {len cap : Nat} {lo hi mx : Option Value} {l h m : Nat} {w : World}
    (hb : (Instr.sliceBounds true len cap lo hi mx).run P w = .ok (l, h, m) w) :
    (Instr.sliceAt T (.slice a len cap) lo hi mx).run P w = .ok (.slice (if m = l then a else a.map (·.add (l * P.cellsOf E))) (h - l) (m - l)) w := by
  simp [Instr.sliceAt, Instr.slice, run_underlying hT, hb, run_sizeOf hI]
theorem cut_row {w : World} {Sh : Nat → Prop} {sz : Nat} {l : List AV} {vs : List Value} (h : RepRow w Sh sz l vs) (a n : Nat) :
    RepRow w Sh sz ((l.drop a).take n) ((vs.drop (a * sz)).take (n * sz)) := (h.drop a).take n
theorem pvSlice_ok {st : St} {T : TypeId} {x v : AV} {lo hi mx : Option AV} (h : pvSlice P st T x lo hi mx = some v) {w : World} {C : Ctx} (hcons : ∀ g, st.cons g = true ↔ C.own g = .dead)
    {u1 : Value} {lo' hi' mx' : Option Value} (h0 : Rep w C x u1) (h1 : RepO w C lo lo') (h2 : RepO w C hi hi') (h3 : RepO w C mx mx') :
    ∃ u, (Instr.sliceAt T u1 lo' hi' mx').run P w = .ok u w ∧ Rep w C v u := by
  unfold pvSlice at h
  split at h
  · rename_i hT
    split at h
    · rename_i l
      obtain ⟨⟨a, b, m⟩, hb, h'⟩ := Option.bind_eq_some_iff.1 h
      cases h'
      cases h3
      simp only [Rep] at h0; subst h0
      obtain ⟨hr, c1, c2, _⟩ := run_bnds (P := P) hb (Nat.le_refl _) false h1 h2 RepO.none
      have hsz : (⟨l.toArray⟩ : ByteArray).size = l.length := by simp [ByteArray.size]
      refine ⟨.string ((⟨l.toArray⟩ : ByteArray).extract a b), by simp [Instr.sliceAt, Instr.slice, run_underlying hT, hsz, hr], ?_⟩
      simp only [Rep]
      congr 1
      apply ByteArray.ext
      simp [ByteArray.data_extract, List.take_drop]
    · cases h
  · rename_i E hT
    split at h
    · rename_i o nb sz l
      obtain ⟨⟨ha, hsz, hI⟩, h'⟩ := need_some h
      obtain ⟨⟨a, b, m⟩, hb, h''⟩ := Option.bind_eq_some_iff.1 h'
      cases h''
      subst hsz
      cases o with
      | none =>
        rcases h0 with ⟨hn, rfl, rfl⟩ | ⟨hn, bb, off, cap, vs, sp, rfl, hlc, hsh, hr⟩
        · obtain ⟨hr, c1, c2, c3, c4, _⟩ := run_bnds (P := P) hb (Nat.le_refl _) true h1 h2 h3
          simp only [List.length_nil] at c2 c4 hr
          obtain rfl : b = 0 := by omega
          obtain rfl : a = 0 := by omega
          refine ⟨_, run_slice_of hT hI hr, .inl ⟨hn, by simp, ?_⟩⟩
          have : m.getD 0 = 0 := by omega
          simp [this]
        · obtain ⟨hrun, c1, c2, c3, c4, _⟩ := run_bnds (P := P) hb hlc true h1 h2 h3
          refine ⟨_, run_slice_of hT hI hrun, .inr ⟨hn, ?_⟩⟩
          have hlen : ((l.drop a).take (b - a)).length = b - a := by simp; omega
          have hcut := cut_row hr a (b - a)
          by_cases hm : m.getD cap = a
          · have hz : b - a = 0 := by omega
            refine ⟨bb, off, m.getD cap - a, [], sp, by rw [hlen]; simp [hm], by rw [hlen]; omega, .inl (by omega), ?_⟩
            rw [hz]; simp [RepRow]
          · obtain ⟨rfl, hsh, hc⟩ := hsh.resolve_left (by omega)
            refine ⟨bb, off + a * P.cellsOf E, m.getD cap - a, _, none, by rw [hlen]; simp [hm, Addr.add_plain], by rw [hlen]; omega, .inr ⟨rfl, hsh, (hc.drop _).take _⟩, hcut⟩
      | some p =>
        obtain ⟨g, eo⟩ := p
        have hd : C.own g ≠ .dead := fun e => by
          have := (hcons g).2 e
          simp [St.alive, this] at ha
        rcases h0 with h0 | ⟨hn, rfl, rfl⟩ | ⟨hn, bb, base, off, cap, vs, hg, hoff, rfl, hlc, hc, hr, hop⟩
        · exact absurd h0 hd
        · obtain ⟨hr, c1, c2, c3, c4, _⟩ := run_bnds (P := P) hb (Nat.le_refl _) true h1 h2 h3
          simp only [List.length_nil] at c2 c4 hr
          obtain rfl : b = 0 := by omega
          obtain rfl : a = 0 := by omega
          refine ⟨_, run_slice_of hT hI hr, .inr (.inl ⟨hn, by simp, ?_⟩)⟩
          have : m.getD 0 = 0 := by omega
          simp [this]
        · obtain ⟨hrun, c1, c2, c3, c4, _⟩ := run_bnds (P := P) hb hlc true h1 h2 h3
          refine ⟨_, run_slice_of hT hI hrun, .inr (.inr ⟨hn, ?_⟩)⟩
          have hlen : ((l.drop a).take (b - a)).length = b - a := by simp; omega
          have hcut := cut_row hr a (b - a)
          by_cases hm : m.getD cap = a
          · have hz : b - a = 0 := by omega
            refine ⟨bb, base, off, m.getD cap - a, [], hg, .inr (by omega), by rw [hlen]; simp [hm], by rw [hlen]; omega, fun j v hj => by simp at hj, ?_, ?_⟩
            · rw [hz]; simp [RepRow]
            · obtain ⟨c, e, l1, h1, q1, q2, q3⟩ := hop
              exact ⟨c, e, l1, h1, q1, by rw [hm]; simp; exact Nat.le_trans (Nat.le_add_right _ _) q2, q3⟩
          · have hcap : cap ≠ 0 := by omega
            obtain rfl : off = base + eo * P.cellsOf E := hoff.resolve_right hcap
            refine ⟨bb, base, base + eo * P.cellsOf E + a * P.cellsOf E, m.getD cap - a, _, hg, .inl (by simp only [Nat.add_mul]; omega), by rw [hlen]; simp [hm, Addr.add_plain], by rw [hlen]; omega, (hc.drop _).take _, hcut, ?_⟩
            obtain ⟨c, e, l1, h1, q1, q2, q3⟩ := hop
            refine ⟨c, e, l1, h1, q1, Nat.le_trans ?_ q2, q3⟩
            have : a * P.cellsOf E + (m.getD cap - a) * P.cellsOf E ≤ cap * P.cellsOf E := by
              rw [← Nat.add_mul]; exact Nat.mul_le_mul_right _ (by omega)
            omega
    · rename_i id off len cap
      obtain ⟨⟨hE, hI⟩, h'⟩ := need_some h
      obtain ⟨⟨a, b, m⟩, hb, h''⟩ := Option.bind_eq_some_iff.1 h'
      obtain ⟨hn, h3'⟩ := need_some h''
      cases h3'
      obtain ⟨bb, hbb, rfl, hlc⟩ := h0
      obtain ⟨hrun, c1, c2, c3, c4, _⟩ := run_bnds (P := P) hb hlc true h1 h2 h3
      refine ⟨_, run_slice_of hT hI hrun, bb, hbb, ?_, by simp; omega⟩
      by_cases hm : m.getD cap = a
      · simp only at hn
        obtain rfl : a = 0 := by omega
        simp [hm]
      · simp [hm, Addr.add_plain, hE]
    · cases h
  · rename_i n E hT
    split at h
    · rename_i id off
      obtain ⟨⟨hE, hI⟩, h'⟩ := need_some h
      obtain ⟨⟨a, b, m⟩, hb, h''⟩ := Option.bind_eq_some_iff.1 h'
      obtain ⟨hn, h3'⟩ := need_some h''
      cases h3'
      obtain ⟨bb, hbb, rfl⟩ := h0
      obtain ⟨hrun, c1, c2, c3, c4, _⟩ := run_bnds (P := P) hb (Nat.le_refl _) false h1 h2 h3
      refine ⟨.slice (some (if m.getD n = a then ⟨bb, off, none⟩ else Addr.add ⟨bb, off, none⟩ (a * P.cellsOf E))) (b - a) (m.getD n - a), ?_, bb, hbb, ?_, by simp; omega⟩
      · simp [Instr.sliceAt, Instr.sureAddr, run_underlying hT, hrun, run_sizeOf hI]
      · by_cases hm : m.getD n = a
        · simp only at hn
          obtain rfl : a = 0 := by omega
          simp [hm]
        · simp [hm, Addr.add_plain, hE]
    · cases h
  · cases h
end Go.VS
namespace Go.VS
set_option linter.unusedVariables false
set_option linter.unusedSimpArgs false
set_option linter.unusedSectionVars false
open Go
variable {P : Program}
def putAt {α : Type} (cs : List α) (off : Nat) (vs : List α) : List α := cs.take off ++ vs ++ cs.drop (off + vs.length)
theorem putAt_length {α : Type} {cs vs : List α} {off : Nat} (h : off + vs.length ≤ cs.length) : (putAt cs off vs).length = cs.length := by
  simp [putAt]; omega
theorem putAt_get {α : Type} {cs vs : List α} {off : Nat} (h : off + vs.length ≤ cs.length) (i : Nat) :
    (putAt cs off vs)[i]? = if off ≤ i ∧ i < off + vs.length then vs[i - off]? else cs[i]? := by
  unfold putAt
  by_cases h1 : i < off
  · rw [if_neg (by omega), List.append_assoc, List.getElem?_append_left (by simp; omega), List.getElem?_take]
    simp [h1]
  · by_cases h2 : i < off + vs.length
    · rw [if_pos (by omega), List.append_assoc, List.getElem?_append_right (by simp; omega), List.getElem?_append_left (by simp; omega)]
      congr 1; simp; omega
    · rw [if_neg (by omega), List.append_assoc, List.getElem?_append_right (by simp; omega), List.getElem?_append_right (by simp; omega), List.getElem?_drop]
      congr 1; simp; omega
theorem fold_put : ∀ (vs : List Value) (k off : Nat) (cs : Array Value), off + k + vs.length ≤ cs.size →
    ((vs.zipIdx k).foldl (fun (a : Array Value) (c : Value × Nat) => a.setIfInBounds (off + c.2) c.1) cs).toList = putAt cs.toList (off + k) vs
  | [], k, off, cs, h => by simp [putAt]
  | v :: vs, k, off, cs, h => by
    simp only [List.length_cons] at h
    rw [List.zipIdx_cons, List.foldl_cons, fold_put vs (k + 1) off _ (by simp; omega)]
    apply List.ext_getElem?
    intro i
    rw [putAt_get (by simp; omega), putAt_get (by simp; omega)]
    simp only [Array.toList_setIfInBounds, List.getElem?_set, List.length_cons, Array.length_toList]
    by_cases h1 : i = off + k
    · subst h1
      rw [if_neg (by omega), if_pos rfl, if_pos (by omega), if_pos (by omega)]
      simp
    · by_cases h2 : off + (k + 1) ≤ i ∧ i < off + (k + 1) + vs.length
      · rw [if_pos h2, if_pos (by omega)]
        rw [show i - (off + k) = (i - (off + (k + 1))) + 1 by omega, List.getElem?_cons_succ]
      · rw [if_neg h2, if_neg (fun e => h1 e.symm), if_neg (by omega)]
theorem RepS.putAt {w : World} {C : Ctx} {cs l : List AV} {vs us : List Value} (h : RepS w C cs vs) (h' : RepS w C l us) (off : Nat) :
    RepS w C (putAt cs off l) (putAt vs off us) := by
  unfold VS.putAt
  rw [h'.length]
  exact ((h.take off).append h').append (h.drop _)
/-- A value whose cells are known. -/
def St.solid (st : St) : AV → Bool
  | .undef => false
  | .ghost .. => false
  | .hid _ => false
  | .itp .. => false
  | .tup _ => false
  | .sl o _ _ _ => st.alive o
  | .eptr o _ _ _ _ => st.alive o
  | _ => true
theorem rep_solid {st : St} {w : World} {C : Ctx} (hcons : ∀ g, st.cons g = true ↔ C.own g = .dead) {v : AV} (hs : st.solid v = true) {u : Value} (h : Rep w C v u) :
    RepS w C v.cells u.cells.toList := by
  cases v with
  | agg cs =>
    obtain ⟨vs, rfl, h2⟩ := h
    simpa [Value.cells, AV.cells] using h2
  | undef => cases hs
  | ghost => cases hs
  | hid => cases hs
  | itp => cases hs
  | tup => cases hs
  | int k n => simp only [Rep] at h; subst h; exact ⟨_, [], rfl, rfl, rfl, rfl⟩
  | bool b => simp only [Rep] at h; subst h; exact ⟨_, [], rfl, rfl, rfl, rfl⟩
  | str l => simp only [Rep] at h; subst h; exact ⟨_, [], rfl, rfl, rfl, rfl⟩
  | nilp => simp only [Rep] at h; subst h; exact ⟨_, [], rfl, rfl, rfl, rfl⟩
  | nilf => simp only [Rep] at h; subst h; exact ⟨_, [], rfl, rfl, rfl, rfl⟩
  | yl => simp only [Rep] at h; subst h; exact ⟨_, [], rfl, rfl, rfl, rfl⟩
  | ptr id off =>
    have h' := h
    obtain ⟨b, _, rfl⟩ := h
    exact ⟨_, [], rfl, rfl, h', rfl⟩
  | bsl id off len cap =>
    have h' := h
    obtain ⟨b, _, rfl, _⟩ := h
    exact ⟨_, [], rfl, rfl, h', rfl⟩
  | fn f cap =>
    have h' := h
    obtain ⟨vs, rfl, _⟩ := h
    exact ⟨_, [], rfl, rfl, h', rfl⟩
  | sl o nb sz l =>
    have h' := h
    rcases rep_sl_read hcons h hs with ⟨_, _, rfl⟩ | ⟨_, _, _, _, _, _, rfl, _⟩
    · exact ⟨_, [], rfl, rfl, h', rfl⟩
    · exact ⟨_, [], rfl, rfl, h', rfl⟩
  | eptr o sz l i off =>
    have h' := h
    obtain ⟨_, _, _, rfl, _⟩ := rep_eptr_read hcons h hs
    exact ⟨_, [], rfl, rfl, h', rfl⟩
def cellTys (P : Program) : Nat → TypeId → List TypeId
  | 0, T => [T]
  | n + 1, T =>
    match P.underlying T with
    | some (.struct fs) => fs.toList.flatMap fun f => cellTys P n f.type
    | some (.array k E) => (List.replicate k (cellTys P n E)).flatten
    | _ => [T]
/-- The cells of a type's zero value. -/
def zeroAV (P : Program) (T : TypeId) : Option (List AV) :=
  match P.info? T with
  | some i =>
    match i.zero with
    | some z => need ((cellTys P 12 T).length = z.cells.size ∧ z.cells.all (·.oneCell') = true) (some (List.zipWith (constAV P) (cellTys P 12 T) z.cells.toList))
    | none => none
  | none => none
theorem rep_zip (w : World) (C : Ctx) : ∀ (ts : List TypeId) (vs : List Value), ts.length = vs.length → (∀ v ∈ vs, v.oneCell' = true) → RepS w C (List.zipWith (constAV P) ts vs) vs
  | [], [], _, _ => rfl
  | t :: ts, v :: vs, h, h1 => ⟨v, vs, rfl, h1 v (by simp), rep_const w C P t v, rep_zip w C ts vs (by simpa using h) (fun u hu => h1 u (by simp [hu]))⟩
  | [], _ :: _, h, _ => by simp at h
  | _ :: _, [], h, _ => by simp at h
theorem zeroAV_ok {T : TypeId} {cs : List AV} (h : zeroAV P T = some cs) : ∃ z, (∀ w, (zeroValue T).run P w = .ok z w) ∧ (∀ w C, RepS w C cs z.cells.toList) ∧ (P.info? T).isSome = true := by
  unfold zeroAV at h
  split at h
  · rename_i i hi
    split at h
    · rename_i z hz
      obtain ⟨⟨hl, h1⟩, h'⟩ := need_some h
      cases h'
      refine ⟨z, fun w => by simp [zeroValue, typeInfo, hi, hz], fun w C => rep_zip w C _ _ (by simpa using hl) (fun v hv => ?_), by simp [hi]⟩
      exact Array.all_eq_true_iff_forall_mem.1 h1 v (by simpa using hv)
    · cases h
  · cases h
def placeOf (P : Program) (T : TypeId) (i : Nat) : Option (Nat × Nat) :=
  match P.underlying T with
  | some (.struct fs) => (fs[i]?).map fun f => (f.offset, P.cellsOf f.type)
  | some (.array _ E) => some (i * P.cellsOf E, P.cellsOf E)
  | _ => none
def fillAV (P : Program) (st : St) (T : TypeId) (cs : List AV) : List (Nat × AV) → Option (List AV)
  | [] => some cs
  | (i, v) :: r =>
    (placeOf P T i).bind fun p => need (st.solid v = true ∧ v.cells.length = p.2 ∧ p.1 + p.2 ≤ cs.length) (fillAV P st T (putAt cs p.1 v.cells) r)
inductive RepP (w : World) (C : Ctx) : List (Nat × AV) → List (Nat × Value) → Prop
  | nil : RepP w C [] []
  | cons {i : Nat} {v : AV} {u : Value} {r : List (Nat × AV)} {s : List (Nat × Value)} (h : Rep w C v u) (t : RepP w C r s) : RepP w C ((i, v) :: r) ((i, u) :: s)
theorem fill_ok {st : St} {T : TypeId} {w : World} {C : Ctx} (hcons : ∀ g, st.cons g = true ↔ C.own g = .dead) (place : Nat → Option (Nat × Nat)) (hp : ∀ i p, placeOf P T i = some p → place i = some p) :
    ∀ (ps : List (Nat × AV)) (us : List (Nat × Value)) (cs out : List AV) (vs : List Value), RepP w C ps us → RepS w C cs vs → fillAV P st T cs ps = some out →
      ∃ r, Instr.fill place vs.toArray us = some r ∧ RepS w C out r.toList
  | _, _, cs, out, vs, .nil, hr, h => by cases h; exact ⟨vs.toArray, rfl, hr⟩
  | (i, v) :: r, (_, u) :: s, cs, out, vs, .cons hv t, hr, h => by
    simp only [fillAV] at h
    obtain ⟨p, hpl, h'⟩ := Option.bind_eq_some_iff.1 h
    obtain ⟨⟨h1, h2, h3⟩, h''⟩ := need_some h'
    have hc := rep_solid hcons h1 hv
    have hlen := hc.length
    have hlen' := hr.length
    rw [Array.length_toList] at hlen
    obtain ⟨off, size⟩ := p
    simp only at h2 h3 h''
    have hf := fold_put u.cells.toList 0 off vs.toArray (by simp; omega)
    obtain ⟨q, hq1, hq2⟩ := fill_ok hcons place hp r s _ out _ t (hr.putAt hc off) h''
    refine ⟨q, ?_, hq2⟩
    unfold Instr.fill
    rw [hp i _ hpl]
    have hs : ¬ (u.cells.size ≠ size) := by omega
    have hs2 : ¬ (off + u.cells.size > vs.toArray.size) := by simp; omega
    simp only [hs, hs2, decide_false, Bool.false_or, Bool.or_self, if_false, Bool.false_eq_true]
    rw [← hq1]
    congr 1
    apply Array.ext'
    have e : (u.cells.zipIdx.foldl (fun (cs : Array Value) (x : Value × Nat) => cs.setIfInBounds (off + x.2) x.1) vs.toArray).toList = putAt vs off u.cells.toList := by
      rw [← Array.foldl_toList, Array.toList_zipIdx]
      simpa using hf
    simpa using e
def pvBuild (P : Program) (st : St) (T : TypeId) (parts : List (Nat × AV)) : Option AV :=
  (zeroAV P T).bind fun cs =>
  need ((match P.underlying T with
    | some (.struct fs) => fs.toList.all fun f => (P.info? f.type).isSome
    | some (.array _ E) => (P.info? E).isSome
    | _ => false) = true) ((fillAV P st T cs parts).map .agg)
theorem run_places' : ∀ (fs : List Field), (fs.all fun f => (P.info? f.type).isSome) = true → ∀ (w : World),
    (fs.mapM fun f => do pure (f.offset, ← sizeOf f.type) : Sem (List (Nat × Nat))).run P w = .ok (fs.map fun f => (f.offset, P.cellsOf f.type)) w
  | [], _, w => by simp
  | f :: fs, h, w => by
    simp only [List.all_cons, Bool.and_eq_true] at h
    have ih := run_places' fs h.2 w
    simp [List.mapM_cons, run_sizeOf h.1]
    simp at ih
    simp [ih]
theorem pvBuild_ok {st : St} {T : TypeId} {parts : List (Nat × AV)} {v : AV} (h : pvBuild P st T parts = some v) {w : World} {C : Ctx} (hcons : ∀ g, st.cons g = true ↔ C.own g = .dead)
    {us : Array (Nat × Value)} (hu : RepP w C parts us.toList) : ∃ u, (Instr.build T us).run P w = .ok u w ∧ Rep w C v u := by
  unfold pvBuild at h
  obtain ⟨cs, hz, h⟩ := Option.bind_eq_some_iff.1 h
  obtain ⟨hA, h⟩ := need_some h
  obtain ⟨out, ho, rfl⟩ := Option.map_eq_some_iff.1 h
  obtain ⟨z, hz1, hz2, hI⟩ := zeroAV_ok hz
  split at hA
  · rename_i fs hT
    have hm := run_places' fs.toList hA w
    obtain ⟨r, hr1, hr2⟩ := fill_ok hcons (fun i => (fs.map fun f => (f.offset, P.cellsOf f.type))[i]?) (fun i p hp => by simp only [placeOf, hT] at hp; simpa using hp) parts us.toList cs out _ hu (hz2 w C) ho
    refine ⟨.agg r, ?_, r.toList, by simp, hr2⟩
    have e : (⟨z.cells.toList⟩ : Array Value) = z.cells := rfl
    have hm' : (fs.mapM fun f => do pure (f.offset, ← sizeOf f.type) : Sem (Array (Nat × Nat))).run P w = .ok (fs.map fun f => (f.offset, P.cellsOf f.type)) w := by
      rw [Array.mapM_eq_mapM_toList, Sem.run_map, hm]
      simp only [Result.andThen_ok]
      congr 1
      apply Array.ext'
      simp
    simp only [Instr.build, Sem.run_bind, hz1, Result.andThen_ok, Sem.run_pure, run_underlying hT]
    rw [hm']
    simp only [Result.andThen_ok]
    rw [show z.cells = z.cells.toList.toArray by simp, hr1]
    rfl
  · rename_i n E hT
    obtain ⟨r, hr1, hr2⟩ := fill_ok hcons (fun i => some (i * P.cellsOf E, P.cellsOf E)) (fun i p hp => by simp only [placeOf, hT] at hp; exact hp) parts us.toList cs out _ hu (hz2 w C) ho
    refine ⟨.agg r, ?_, r.toList, by simp, hr2⟩
    simp only [Instr.build, Sem.run_bind, hz1, Result.andThen_ok, Sem.run_pure, run_underlying hT, run_sizeOf hA]
    rw [show z.cells = z.cells.toList.toArray by simp, hr1]
    rfl
  · cases hA
end Go.VS
namespace Go.VS
set_option linter.unusedVariables false
set_option linter.unusedSimpArgs false
set_option linter.unusedSectionVars false
open Go
variable {P : Program}
def pickAV (c : Bool) (a b : AV) : AV :=
  match a, b with
  | .bool x, .bool y => .bool (bif c then x else y)
  | a, b => bif c then a else b
theorem pickAV_ok {w : World} {C : Ctx} {c : Bool} {a b : AV} {u v : Value} (h1 : Rep w C a u) (h2 : Rep w C b v) : Rep w C (pickAV c a b) (if c = true then u else v) := by
  unfold pickAV
  split
  · simp only [Rep] at h1 h2; subst h1; subst h2
    cases c <;> rfl
  · cases c <;> simpa
def partTy (P : Program) (T : TypeId) (i : Nat) : TypeId :=
  match P.underlying T with
  | some (.struct fs) => ((fs[i]?).map (·.type)).getD 0
  | some (.array _ E) => E
  | some (.slice E) => E
  | _ => 0
def pvBuiltin (P : Program) (st : St) (b : Builtin) (ts : List TypeId) (xs : List AV) : Option AV :=
  match b, ts, xs with
  | .len, [T], [.str l] =>
    match P.underlying T with
    | some .string => some (.int .i64 l.length)
    | _ => none
  | .len, [T], [.sl o _ _ l] =>
    match P.underlying T with
    | some (.slice _) => need (st.alive o = true) (some (.int .i64 l.length))
    | _ => none
  | .len, [T], [.bsl _ _ len _] =>
    match P.underlying T with
    | some (.slice _) => some (.int .i64 len)
    | _ => none
  | .min, _, [.int k x, .int _ y] => some (.int k (if y < x then y else x))
  | .max, _, [.int k x, .int _ y] => some (.int k (if y > x then y else x))
  | _, _, _ => none
/-- A value of one cell. -/
def St.one (st : St) : AV → Bool
  | .agg _ => false
  | v => st.solid v
theorem rep_one {st : St} {w : World} {C : Ctx} (hcons : ∀ g, st.cons g = true ↔ C.own g = .dead) {v : AV} (hs : st.one v = true) {u : Value} (h : Rep w C v u) : u.oneCell' = true := by
  cases v with
  | agg cs => cases hs
  | undef => cases hs
  | ghost => cases hs
  | hid => cases hs
  | itp => cases hs
  | tup => cases hs
  | int k n => simp only [Rep] at h; subst h; rfl
  | bool b => simp only [Rep] at h; subst h; rfl
  | str l => simp only [Rep] at h; subst h; rfl
  | nilp => simp only [Rep] at h; subst h; rfl
  | nilf => simp only [Rep] at h; subst h; rfl
  | yl => simp only [Rep] at h; subst h; rfl
  | ptr id off => obtain ⟨b, _, rfl⟩ := h; rfl
  | bsl id off len cap => obtain ⟨b, _, rfl, _⟩ := h; rfl
  | fn f cap => obtain ⟨vs, rfl, _⟩ := h; rfl
  | sl o nb sz l => rcases rep_sl_read hcons h hs with ⟨_, _, rfl⟩ | ⟨_, _, _, _, _, _, rfl, _⟩ <;> rfl
  | eptr o sz l i off => obtain ⟨_, _, _, rfl, _⟩ := rep_eptr_read hcons h hs; rfl
def pv (P : Program) (st : St) (o : Oper) : Option AV :=
  match o.op with
  | .move x => some (st.ev P o.type x)
  | .assign x => some (st.ev P o.type x)
  | .pick c a b =>
    match st.ev P 0 c with
    | .bool cb => some (pickAV cb (st.ev P o.type a) (st.ev P o.type b))
    | _ => none
  | .nilCheck x =>
    match st.ev P 0 x with
    | .ptr id off => some (.ptr id off)
    | .eptr q sz l i off => need (st.alive q = true) (some (.eptr q sz l i off))
    | .fn f cap => some (.fn f cap)
    | _ => none
  | .binOp op T x y _ => pvBin P st op T (st.ev P T x) (st.ev P T y)
  | .unOp op _ x => pvUn op (st.ev P 0 x)
  | .convert s d x => pvConv P st s d (st.ev P s x)
  | .makeFunc (.func f) first cap => need (first.size = 0 ∧ (cap.toList.map (st.ev P 0)).all st.one = true) (some (.fn f (cap.toList.map (st.ev P 0))))
  | .slice T x lo hi mx => pvSlice P st T (st.ev P T x) (lo.map (st.ev P 0)) (hi.map (st.ev P 0)) (mx.map (st.ev P 0))
  | .fieldAddr S x f => pvFieldAddr P st S (st.ev P 0 x) f
  | .field S x f => pvField P S (st.ev P 0 x) f
  | .indexAddr T x i => pvIndexAddr P st T (st.ev P T x) (st.ev P 0 i)
  | .index T x i => pvIndex P T (st.ev P T x) (st.ev P 0 i)
  | .load T x => pvLoad P st T (st.ev P 0 x)
  | .extract t i =>
    match st.ev P 0 t with
    | .tup vs => vs[i]?
    | _ => none
  | .build T parts => pvBuild P st T (parts.toList.map fun p => (p.1, st.ev P (partTy P T p.1) p.2))
  | .call c =>
    match c.callee with
    | .builtin b => pvBuiltin P st b c.argTypes.toList (c.args.toList.map (st.ev P (c.argTypes.getD 0 0)))
    | _ => none
  | _ => none
theorem rep_o {X : Ent} {st : St} {C : Ctx} {a : Act} {w : World} (h : Conc X st C a w) (T : TypeId) (x : Option Operand) : RepO w C (x.map (st.ev P T)) (x.map a.eval) := by
  cases x with
  | none => exact .none
  | some x => exact .some (h.ev P T x)
theorem rep_p {X : Ent} {st : St} {C : Ctx} {a : Act} {w : World} (h : Conc X st C a w) (f : Nat → TypeId) : ∀ (l : List (Nat × Operand)),
    RepP w C (l.map fun p => (p.1, st.ev P (f p.1) p.2)) (l.map fun p => (p.1, a.eval p.2))
  | [] => .nil
  | p :: l => .cons (h.ev P _ p.2) (rep_p h f l)
theorem pvBuiltin_ok {X : Ent} {st : St} {C : Ctx} {a : Act} {w : World} (hc : Conc X st C a w) {b : Builtin} {ts : Array TypeId} {args : Array Operand} {T : TypeId} {v : AV}
    (h : pvBuiltin P st b ts.toList (args.toList.map (st.ev P T)) = some v) (ty : TypeId) (cs : Array Bool) :
    ∃ u, (builtin b ts ty cs (args.map a.eval)).run P w = .ok (.value u) w ∧ Rep w C v u := by
  have hargs : ∀ (xs : List AV), args.toList.map (st.ev P T) = xs → ∀ (us : List Value), args.toList.map a.eval = us → xs.length = us.length ∧ ∀ (i : Nat) (x : AV) (u : Value), xs[i]? = some x → us[i]? = some u → Rep w C x u := by
    intro xs hx us hu
    subst hx; subst hu
    refine ⟨by simp, fun i x u h1 h2 => ?_⟩
    simp only [List.getElem?_map, Option.map_eq_some_iff] at h1 h2
    obtain ⟨y, h1, rfl⟩ := h1
    obtain ⟨z, h2, rfl⟩ := h2
    rw [h1] at h2; cases h2
    exact hc.ev P T y
  have hmap : args.map a.eval = (args.toList.map a.eval).toArray := by apply Array.ext'; simp
  have hts : ts = ts.toList.toArray := by simp
  rw [hmap, hts]
  generalize hus : args.toList.map a.eval = us
  generalize htl : ts.toList = tl at h
  unfold pvBuiltin at h
  split at h
  · rename_i T' l hx
    obtain ⟨hl, hr⟩ := hargs _ hx _ hus
    match us, hl with
    | [u], _ =>
      have h1 := hr 0 _ _ rfl rfl
      simp only [Rep] at h1; subst h1
      split at h <;> cases h
      rename_i hT
      exact ⟨_, by simp [builtin, Builtin.len_, run_underlying hT]; rfl, by simp [Rep, goInt, ByteArray.size]⟩
  · rename_i T' o nb sz l hx
    obtain ⟨hl, hr⟩ := hargs _ hx _ hus
    match us, hl with
    | [u], _ =>
      have h1 := hr 0 _ _ rfl rfl
      split at h
      · rename_i E hT
        obtain ⟨ha, h'⟩ := need_some h
        cases h'
        obtain ⟨p, c, rfl, _⟩ := rep_sl_nb hc.cons h1 ha
        exact ⟨_, by simp [builtin, Builtin.len_, run_underlying hT]; rfl, rfl⟩
      · cases h
  · rename_i T' id off len cap hx
    obtain ⟨hl, hr⟩ := hargs _ hx _ hus
    match us, hl with
    | [u], _ =>
      have h1 := hr 0 _ _ rfl rfl
      obtain ⟨b, _, rfl, _⟩ := h1
      split at h <;> cases h
      rename_i hT
      exact ⟨_, by simp [builtin, Builtin.len_, run_underlying hT]; rfl, rfl⟩
  · rename_i k x k' y hx
    obtain ⟨hl, hr⟩ := hargs _ hx _ hus
    match us, hl with
    | [u1, u2], _ =>
      have h1 := hr 0 _ _ rfl rfl
      have h2 := hr 1 _ _ rfl rfl
      simp only [Rep] at h1 h2; subst h1; subst h2
      cases h
      exact ⟨_, by simp [builtin, Builtin.min_, Builtin.min2], rfl⟩
  · rename_i k x k' y hx
    obtain ⟨hl, hr⟩ := hargs _ hx _ hus
    match us, hl with
    | [u1, u2], _ =>
      have h1 := hr 0 _ _ rfl rfl
      have h2 := hr 1 _ _ rfl rfl
      simp only [Rep] at h1 h2; subst h1; subst h2
      cases h
      exact ⟨_, by simp [builtin, Builtin.max_, Builtin.max2], rfl⟩
  · cases h
theorem rep_map {X : Ent} {st : St} {C : Ctx} {a : Act} {w : World} (h : Conc X st C a w) (T : TypeId) :
    ∀ (l : List Operand), (l.map (st.ev P T)).all st.one = true → RepS w C (l.map (st.ev P T)) (l.map a.eval)
  | [], _ => rfl
  | x :: l, h1 => by
    simp only [List.map_cons, List.all_cons, Bool.and_eq_true] at h1
    exact ⟨_, _, rfl, rep_one h.cons h1.1 (h.ev P T x), h.ev P T x, rep_map h T l h1.2⟩
theorem pv_ok {X : Ent} {st : St} {C : Ctx} {a : Act} {w : World} (hc : Conc X st C a w) {o : Oper} {v : AV} (h : pv P st o = some v) :
    ∃ u, (execOp a.eval o).run P w = .ok (.value u) w ∧ Rep w C v u := by
  unfold pv at h
  unfold execOp
  split at h <;> rename_i ho <;> simp only [ho]
  · cases h; exact ⟨_, rfl, hc.ev P _ _⟩
  · cases h; exact ⟨_, rfl, hc.ev P _ _⟩
  · rename_i c x y
    split at h
    · rename_i cb hcb
      cases h
      have h1 := hc.ev P 0 c
      rw [hcb] at h1
      simp only [Rep] at h1
      exact ⟨_, by simp only [h1, asBool]; rfl, pickAV_ok (hc.ev P _ x) (hc.ev P _ y)⟩
    · cases h
  · rename_i x
    split at h
    · rename_i id off hx
      cases h
      have h1 := hc.ev P 0 x
      rw [hx] at h1
      have h1' := h1
      obtain ⟨b, _, hb⟩ := h1
      exact ⟨_, by rw [hb]; rfl, by rw [← hb]; exact h1'⟩
    · rename_i q sz l i off hx
      obtain ⟨ha, h'⟩ := need_some h
      cases h'
      have h1 := hc.ev P 0 x
      rw [hx] at h1
      have h1' := h1
      obtain ⟨b, o', vs, hb, _⟩ := rep_eptr_read hc.cons h1 ha
      exact ⟨_, by rw [hb]; rfl, by rw [← hb]; exact h1'⟩
    · rename_i f cap hx
      cases h
      have h1 := hc.ev P 0 x
      rw [hx] at h1
      have h1' := h1
      obtain ⟨vs, hb, _⟩ := h1
      exact ⟨_, by rw [hb]; rfl, by rw [← hb]; exact h1'⟩
    · cases h
  · rename_i op T x y _
    obtain ⟨u, hu, hr⟩ := pvBin_ok h hc.cons x y (hc.ev P T x) (hc.ev P T y)
    exact ⟨u, by rw [Sem.run_bind, hu]; rfl, hr⟩
  · rename_i op T x
    obtain ⟨u, hu, hr⟩ := pvUn_ok (P := P) h (hc.ev P 0 x)
    exact ⟨u, by rw [Sem.run_bind, hu]; rfl, hr⟩
  · rename_i s d x
    obtain ⟨u, hu, hr⟩ := pvConv_ok h hc.cons (hc.ev P s x)
    exact ⟨u, by rw [Sem.run_bind, hu]; rfl, hr⟩
  · rename_i f first cap
    obtain ⟨⟨h0, h1⟩, h'⟩ := need_some h
    cases h'
    have hf : first = #[] := by simpa using h0
    subst hf
    exact ⟨.func (.func f) #[] (cap.map a.eval), by simp [Instr.makeFunc], (cap.toList.map a.eval), by simp; apply Array.ext'; simp, rep_map hc 0 _ h1⟩
  · rename_i T x lo hi mx
    obtain ⟨u, hu, hr⟩ := pvSlice_ok h hc.cons (hc.ev P T x) (rep_o hc 0 lo) (rep_o hc 0 hi) (rep_o hc 0 mx)
    exact ⟨u, by rw [Sem.run_bind, hu]; rfl, hr⟩
  · rename_i S x f
    obtain ⟨u, hu, hr⟩ := pvFieldAddr_ok h hc.cons (hc.ev P 0 x)
    exact ⟨u, by rw [Sem.run_bind, hu]; rfl, hr⟩
  · rename_i S x f
    obtain ⟨u, hu, hr⟩ := pvField_ok h (hc.ev P 0 x)
    exact ⟨u, by rw [Sem.run_bind, hu]; rfl, hr⟩
  · rename_i T x i
    obtain ⟨u, hu, hr⟩ := pvIndexAddr_ok h hc.cons (hc.ev P T x) (hc.ev P 0 i)
    exact ⟨u, by rw [Sem.run_bind, hu]; rfl, hr⟩
  · rename_i T x i
    obtain ⟨u, hu, hr⟩ := pvIndex_ok h (hc.ev P T x) (hc.ev P 0 i)
    exact ⟨u, by rw [Sem.run_bind, hu]; rfl, hr⟩
  · rename_i T x
    obtain ⟨u, hu, hr⟩ := pvLoad_ok h hc.cons hc.boxes (hc.ev P 0 x)
    exact ⟨u, by rw [Sem.run_bind, hu]; rfl, hr⟩
  · rename_i t i
    split at h
    · rename_i vs ht
      have h1 := hc.ev P 0 t
      rw [ht] at h1
      obtain ⟨us, hb, hr⟩ := h1
      obtain ⟨u, hu, hv⟩ := hr.get h
      exact ⟨u, by rw [hb]; simp [Instr.extract, hu], hv⟩
    · cases h
  · rename_i T parts
    obtain ⟨u, hu, hr⟩ := pvBuild_ok (us := parts.map fun (i, x) => (i, a.eval x)) h hc.cons (by simpa using rep_p hc (partTy P T) parts.toList)
    exact ⟨u, by rw [Sem.run_bind, hu]; rfl, hr⟩
  · rename_i c
    split at h
    · rename_i b hb
      obtain ⟨u, hu, hr⟩ := pvBuiltin_ok hc h o.type (c.args.map fun | .const _ => true | _ => false)
      exact ⟨u, by simp [resolve, hb, invoke]; exact hu, hr⟩
    · cases h
  · cases h
end Go.VS
