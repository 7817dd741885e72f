/- Part of a framework that states what Go functions answer on values as data; it holds for every program of the model. -/
import Derived.Test.YtijcpdgfbboamaaDoorVsOps5
namespace Go.VS
set_option linter.unusedVariables false
set_option linter.unusedSimpArgs false
set_option linter.unusedSectionVars false
open Go
variable {P : Program}

def pickAV (c : Bool) (a b : AV) : AV :=
  match a, b with
  | .bool x, .bool y => .bool (bif c then x else y)
  | a, b => bif c then a else b

theorem pickAV_ok {w : World} {C : Ctx} {c : Bool} {a b : AV} {u v : Value} (h1 : Rep w C a u) (h2 : Rep w C b v) : Rep w C (pickAV c a b) (if c = true then u else v) := by
  unfold pickAV
  split
  · simp only [Rep] at h1 h2; subst h1; subst h2
    cases c <;> rfl
  · cases c <;> simpa

def partTy (P : Program) (T : TypeId) (i : Nat) : TypeId :=
  match P.underlying T with
  | some (.struct fs) => ((fs[i]?).map (·.type)).getD 0
  | some (.array _ E) => E
  | some (.slice E) => E
  | _ => 0

def pvBuiltin (P : Program) (st : St) (b : Builtin) (ts : List TypeId) (xs : List AV) : Option AV :=
  match b, ts, xs with
  | .len, [T], [.str l] =>
    match P.underlying T with
    | some .string => some (.int .i64 l.length)
    | _ => none
  | .len, [T], [.sl o _ _ l] =>
    match P.underlying T with
    | some (.slice _) => need (st.alive o = true) (some (.int .i64 l.length))
    | _ => none
  | .len, [T], [.bsl _ _ len _] =>
    match P.underlying T with
    | some (.slice _) => some (.int .i64 len)
    | _ => none
  | .min, _, [.int k x, .int _ y] => some (.int k (if y < x then y else x))
  | .max, _, [.int k x, .int _ y] => some (.int k (if y > x then y else x))
  | _, _, _ => none

/-- A value of one cell. -/
def St.one (st : St) : AV → Bool
  | .agg _ => false
  | v => st.solid v

theorem rep_one {st : St} {w : World} {C : Ctx} (hcons : ∀ g, st.cons g = true ↔ C.own g = .dead) {v : AV} (hs : st.one v = true) {u : Value} (h : Rep w C v u) : u.oneCell' = true := by
  cases v with
  | agg cs => cases hs
  | undef => cases hs
  | tup => cases hs
  | int k n => simp only [Rep] at h; subst h; rfl
  | bool b => simp only [Rep] at h; subst h; rfl
  | str l => simp only [Rep] at h; subst h; rfl
  | nilp => simp only [Rep] at h; subst h; rfl
  | nilf => simp only [Rep] at h; subst h; rfl
  | ptr id off => obtain ⟨b, _, rfl⟩ := h; rfl
  | bsl id off len cap => obtain ⟨b, _, rfl, _⟩ := h; rfl
  | fn f cap => obtain ⟨vs, rfl, _⟩ := h; rfl
  | sl o nb sz l => rcases rep_sl_read hcons h hs with ⟨_, _, rfl⟩ | ⟨_, _, _, _, _, _, rfl, _⟩ <;> rfl
  | eptr o sz l i off => obtain ⟨_, _, _, rfl, _⟩ := rep_eptr_read hcons h hs; rfl

def pv (P : Program) (st : St) (o : Oper) : Option AV :=
  match o.op with
  | .move x => some (st.ev P o.type x)
  | .assign x => some (st.ev P o.type x)
  | .pick c a b =>
    match st.ev P 0 c with
    | .bool cb => some (pickAV cb (st.ev P o.type a) (st.ev P o.type b))
    | _ => none
  | .nilCheck x =>
    match st.ev P 0 x with
    | .ptr id off => some (.ptr id off)
    | .eptr q sz l i off => need (st.alive q = true) (some (.eptr q sz l i off))
    | .fn f cap => some (.fn f cap)
    | _ => none
  | .binOp op T x y _ => pvBin P st op T (st.ev P T x) (st.ev P T y)
  | .unOp op _ x => pvUn op (st.ev P 0 x)
  | .convert s d x => pvConv P st s d (st.ev P s x)
  | .makeFunc (.func f) first cap => need (first.size = 0 ∧ (cap.toList.map (st.ev P 0)).all st.one = true) (some (.fn f (cap.toList.map (st.ev P 0))))
  | .slice T x lo hi mx => pvSlice P st T (st.ev P T x) (lo.map (st.ev P 0)) (hi.map (st.ev P 0)) (mx.map (st.ev P 0))
  | .fieldAddr S x f => pvFieldAddr P st S (st.ev P 0 x) f
  | .field S x f => pvField P S (st.ev P 0 x) f
  | .indexAddr T x i => pvIndexAddr P st T (st.ev P T x) (st.ev P 0 i)
  | .index T x i => pvIndex P T (st.ev P T x) (st.ev P 0 i)
  | .load T x => pvLoad P st T (st.ev P 0 x)
  | .extract t i =>
    match st.ev P 0 t with
    | .tup vs => vs[i]?
    | _ => none
  | .build T parts => pvBuild P st T (parts.toList.map fun p => (p.1, st.ev P (partTy P T p.1) p.2))
  | .call c =>
    match c.callee with
    | .builtin b => pvBuiltin P st b c.argTypes.toList (c.args.toList.map (st.ev P (c.argTypes.getD 0 0)))
    | _ => none
  | _ => none

theorem rep_o {X : Ent} {st : St} {C : Ctx} {a : Act} {w : World} (h : Conc X st C a w) (T : TypeId) (x : Option Operand) : RepO w C (x.map (st.ev P T)) (x.map a.eval) := by
  cases x with
  | none => exact .none
  | some x => exact .some (h.ev P T x)

theorem rep_p {X : Ent} {st : St} {C : Ctx} {a : Act} {w : World} (h : Conc X st C a w) (f : Nat → TypeId) : ∀ (l : List (Nat × Operand)),
    RepP w C (l.map fun p => (p.1, st.ev P (f p.1) p.2)) (l.map fun p => (p.1, a.eval p.2))
  | [] => .nil
  | p :: l => .cons (h.ev P _ p.2) (rep_p h f l)

theorem pvBuiltin_ok {X : Ent} {st : St} {C : Ctx} {a : Act} {w : World} (hc : Conc X st C a w) {b : Builtin} {ts : Array TypeId} {args : Array Operand} {T : TypeId} {v : AV}
    (h : pvBuiltin P st b ts.toList (args.toList.map (st.ev P T)) = some v) (ty : TypeId) (cs : Array Bool) :
    ∃ u, (builtin b ts ty cs (args.map a.eval)).run P w = .ok (.value u) w ∧ Rep w C v u := by
  have hargs : ∀ (xs : List AV), args.toList.map (st.ev P T) = xs → ∀ (us : List Value), args.toList.map a.eval = us → xs.length = us.length ∧ ∀ (i : Nat) (x : AV) (u : Value), xs[i]? = some x → us[i]? = some u → Rep w C x u := by
    intro xs hx us hu
    subst hx; subst hu
    refine ⟨by simp, fun i x u h1 h2 => ?_⟩
    simp only [List.getElem?_map, Option.map_eq_some_iff] at h1 h2
    obtain ⟨y, h1, rfl⟩ := h1
    obtain ⟨z, h2, rfl⟩ := h2
    rw [h1] at h2; cases h2
    exact hc.ev P T y
  have hmap : args.map a.eval = (args.toList.map a.eval).toArray := by apply Array.ext'; simp
  have hts : ts = ts.toList.toArray := by simp
  rw [hmap, hts]
  generalize hus : args.toList.map a.eval = us
  generalize htl : ts.toList = tl at h
  unfold pvBuiltin at h
  split at h
  · rename_i T' l hx
    obtain ⟨hl, hr⟩ := hargs _ hx _ hus
    match us, hl with
    | [u], _ =>
      have h1 := hr 0 _ _ rfl rfl
      simp only [Rep] at h1; subst h1
      split at h <;> cases h
      rename_i hT
      exact ⟨_, by simp [builtin, Builtin.len_, run_underlying hT]; rfl, by simp [Rep, goInt, ByteArray.size]⟩
  · rename_i T' o nb sz l hx
    obtain ⟨hl, hr⟩ := hargs _ hx _ hus
    match us, hl with
    | [u], _ =>
      have h1 := hr 0 _ _ rfl rfl
      split at h
      · rename_i E hT
        obtain ⟨ha, h'⟩ := need_some h
        cases h'
        obtain ⟨p, c, rfl, _⟩ := rep_sl_nb hc.cons h1 ha
        exact ⟨_, by simp [builtin, Builtin.len_, run_underlying hT]; rfl, rfl⟩
      · cases h
  · rename_i T' id off len cap hx
    obtain ⟨hl, hr⟩ := hargs _ hx _ hus
    match us, hl with
    | [u], _ =>
      have h1 := hr 0 _ _ rfl rfl
      obtain ⟨b, _, rfl, _⟩ := h1
      split at h <;> cases h
      rename_i hT
      exact ⟨_, by simp [builtin, Builtin.len_, run_underlying hT]; rfl, rfl⟩
  · rename_i k x k' y hx
    obtain ⟨hl, hr⟩ := hargs _ hx _ hus
    match us, hl with
    | [u1, u2], _ =>
      have h1 := hr 0 _ _ rfl rfl
      have h2 := hr 1 _ _ rfl rfl
      simp only [Rep] at h1 h2; subst h1; subst h2
      cases h
      exact ⟨_, by simp [builtin, Builtin.min_, Builtin.min2], rfl⟩
  · rename_i k x k' y hx
    obtain ⟨hl, hr⟩ := hargs _ hx _ hus
    match us, hl with
    | [u1, u2], _ =>
      have h1 := hr 0 _ _ rfl rfl
      have h2 := hr 1 _ _ rfl rfl
      simp only [Rep] at h1 h2; subst h1; subst h2
      cases h
      exact ⟨_, by simp [builtin, Builtin.max_, Builtin.max2], rfl⟩
  · cases h

theorem rep_map {X : Ent} {st : St} {C : Ctx} {a : Act} {w : World} (h : Conc X st C a w) (T : TypeId) :
    ∀ (l : List Operand), (l.map (st.ev P T)).all st.one = true → RepS w C (l.map (st.ev P T)) (l.map a.eval)
  | [], _ => rfl
  | x :: l, h1 => by
    simp only [List.map_cons, List.all_cons, Bool.and_eq_true] at h1
    exact ⟨_, _, rfl, rep_one h.cons h1.1 (h.ev P T x), h.ev P T x, rep_map h T l h1.2⟩

theorem pv_ok {X : Ent} {st : St} {C : Ctx} {a : Act} {w : World} (hc : Conc X st C a w) {o : Oper} {v : AV} (h : pv P st o = some v) :
    ∃ u, (execOp a.eval o).run P w = .ok (.value u) w ∧ Rep w C v u := by
  unfold pv at h
  unfold execOp
  split at h <;> rename_i ho <;> simp only [ho]
  · cases h; exact ⟨_, rfl, hc.ev P _ _⟩
  · cases h; exact ⟨_, rfl, hc.ev P _ _⟩
  · rename_i c x y
    split at h
    · rename_i cb hcb
      cases h
      have h1 := hc.ev P 0 c
      rw [hcb] at h1
      simp only [Rep] at h1
      exact ⟨_, by simp only [h1, asBool]; rfl, pickAV_ok (hc.ev P _ x) (hc.ev P _ y)⟩
    · cases h
  · rename_i x
    split at h
    · rename_i id off hx
      cases h
      have h1 := hc.ev P 0 x
      rw [hx] at h1
      have h1' := h1
      obtain ⟨b, _, hb⟩ := h1
      exact ⟨_, by rw [hb]; rfl, by rw [← hb]; exact h1'⟩
    · rename_i q sz l i off hx
      obtain ⟨ha, h'⟩ := need_some h
      cases h'
      have h1 := hc.ev P 0 x
      rw [hx] at h1
      have h1' := h1
      obtain ⟨b, o', vs, hb, _⟩ := rep_eptr_read hc.cons h1 ha
      exact ⟨_, by rw [hb]; rfl, by rw [← hb]; exact h1'⟩
    · rename_i f cap hx
      cases h
      have h1 := hc.ev P 0 x
      rw [hx] at h1
      have h1' := h1
      obtain ⟨vs, hb, _⟩ := h1
      exact ⟨_, by rw [hb]; rfl, by rw [← hb]; exact h1'⟩
    · cases h
  · rename_i op T x y _
    obtain ⟨u, hu, hr⟩ := pvBin_ok h hc.cons x y (hc.ev P T x) (hc.ev P T y)
    exact ⟨u, by rw [Sem.run_bind, hu]; rfl, hr⟩
  · rename_i op T x
    obtain ⟨u, hu, hr⟩ := pvUn_ok (P := P) h (hc.ev P 0 x)
    exact ⟨u, by rw [Sem.run_bind, hu]; rfl, hr⟩
  · rename_i s d x
    obtain ⟨u, hu, hr⟩ := pvConv_ok h hc.cons (hc.ev P s x)
    exact ⟨u, by rw [Sem.run_bind, hu]; rfl, hr⟩
  · rename_i f first cap
    obtain ⟨⟨h0, h1⟩, h'⟩ := need_some h
    cases h'
    have hf : first = #[] := by simpa using h0
    subst hf
    exact ⟨.func (.func f) #[] (cap.map a.eval), by simp [Instr.makeFunc], (cap.toList.map a.eval), by simp; apply Array.ext'; simp, rep_map hc 0 _ h1⟩
  · rename_i T x lo hi mx
    obtain ⟨u, hu, hr⟩ := pvSlice_ok h hc.cons (hc.ev P T x) (rep_o hc 0 lo) (rep_o hc 0 hi) (rep_o hc 0 mx)
    exact ⟨u, by rw [Sem.run_bind, hu]; rfl, hr⟩
  · rename_i S x f
    obtain ⟨u, hu, hr⟩ := pvFieldAddr_ok h hc.cons (hc.ev P 0 x)
    exact ⟨u, by rw [Sem.run_bind, hu]; rfl, hr⟩
  · rename_i S x f
    obtain ⟨u, hu, hr⟩ := pvField_ok h (hc.ev P 0 x)
    exact ⟨u, by rw [Sem.run_bind, hu]; rfl, hr⟩
  · rename_i T x i
    obtain ⟨u, hu, hr⟩ := pvIndexAddr_ok h hc.cons (hc.ev P T x) (hc.ev P 0 i)
    exact ⟨u, by rw [Sem.run_bind, hu]; rfl, hr⟩
  · rename_i T x i
    obtain ⟨u, hu, hr⟩ := pvIndex_ok h (hc.ev P T x) (hc.ev P 0 i)
    exact ⟨u, by rw [Sem.run_bind, hu]; rfl, hr⟩
  · rename_i T x
    obtain ⟨u, hu, hr⟩ := pvLoad_ok h hc.cons hc.boxes (hc.ev P 0 x)
    exact ⟨u, by rw [Sem.run_bind, hu]; rfl, hr⟩
  · rename_i t i
    split at h
    · rename_i vs ht
      have h1 := hc.ev P 0 t
      rw [ht] at h1
      obtain ⟨us, hb, hr⟩ := h1
      obtain ⟨u, hu, hv⟩ := hr.get h
      exact ⟨u, by rw [hb]; simp [Instr.extract, hu], hv⟩
    · cases h
  · rename_i T parts
    obtain ⟨u, hu, hr⟩ := pvBuild_ok (us := parts.map fun (i, x) => (i, a.eval x)) h hc.cons (by simpa using rep_p hc (partTy P T) parts.toList)
    exact ⟨u, by rw [Sem.run_bind, hu]; rfl, hr⟩
  · rename_i c
    split at h
    · rename_i b hb
      obtain ⟨u, hu, hr⟩ := pvBuiltin_ok hc h o.type (c.args.map fun | .const _ => true | _ => false)
      exact ⟨u, by simp [resolve, hb, invoke]; exact hu, hr⟩
    · cases h
  · cases h
end Go.VS
