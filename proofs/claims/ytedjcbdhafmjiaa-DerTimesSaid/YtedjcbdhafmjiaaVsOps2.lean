/- Part of a framework that states what Go functions answer on values as data; it holds for every program of the model. -/
import Derived.Test.YtedjcbdhafmjiaaVsOps
import Derived.Laws.BytesString
import Derived.Laws.Slices
import Derived.Laws.Build
import Derived.Laws.ByValue
namespace Go.VS
set_option linter.unusedVariables false
set_option linter.unusedSimpArgs false
set_option linter.unusedSectionVars false
open Go
variable {P : Program}

def _root_.Go.Program.isAggT (P : Program) (T : TypeId) : Bool :=
  match P.underlying T with
  | some (.struct _) => true
  | some (.array _ _) => true
  | _ => false

def byteOf : AV → Option UInt8
  | .int .u8 n => some (UInt8.ofNat n.toNat)
  | _ => none
def bytesOf : List AV → Option (List UInt8)
  | [] => some []
  | a :: l => (byteOf a).bind fun b => (bytesOf l).bind fun r => some (b :: r)

/-- A byte as a value. -/
def u8 (c : UInt8) : AV := .int .u8 (c.toNat : Int)
@[simp] theorem byteOf_u8 (c : UInt8) : byteOf (u8 c) = some c := by simp [byteOf, u8]
@[simp] theorem bytesOf_u8 : ∀ (l : List UInt8), bytesOf (l.map u8) = some l
  | [] => rfl
  | c :: l => by simp [bytesOf, bytesOf_u8 l]

def pvUn (op : UnOp) (x : AV) : Option AV :=
  match op, x with
  | .not, .bool b => some (.bool (!b))
  | .neg, .int k n => some (.int k (k.wrap (0 - n)))
  | .xor, .int k n => some (.int k (bitop .xor k (if k.signed then -1 else k.max) n))
  | _, _ => none

theorem pvUn_ok {op : UnOp} {x v : AV} (h : pvUn op x = some v) {w : World} {C : Ctx} {u1 : Value} (h1 : Rep w C x u1) :
    ∃ u, (Op.unary op u1).run P w = .ok u w ∧ Rep w C v u := by
  unfold pvUn at h
  split at h <;> cases h <;> simp only [Rep] at h1 <;> subst h1
  · exact ⟨_, by simp [Op.unary], rfl⟩
  · exact ⟨_, by simp [Op.unary, Op.intArith], rfl⟩
  · exact ⟨_, by simp [Op.unary, Op.intBits, bitop], rfl⟩

def pvConv (P : Program) (st : St) (src dst : TypeId) (x : AV) : Option AV :=
  match x with
  | .int _ n => need ((P.underlying src).isSome = true)
      (match P.underlying dst with
       | some (.int k) => some (.int k (k.wrap n))
       | some .string => some (.str (Utf8.encode n).data.toList)
       | _ => none)
  | .str l => need ((P.underlying src).isSome = true)
      (match P.underlying dst with
       | some .string => some (.str l)
       | _ => none)
  | .sl o _ sz l =>
      match P.underlying src, P.underlying dst with
      | some (.slice E), some .string =>
        match P.underlying E with
        | some (.int .u8) => need (st.alive o = true ∧ sz = 1) ((bytesOf l).map .str)
        | _ => none
      | _, _ => none
  | _ => none

theorem bytes_row {w : World} {Sh : Nat → Prop} : ∀ {l : List AV} {vs : List Value} {bs : List UInt8}, RepRow w Sh 1 l vs → bytesOf l = some bs →
    ∃ ns : List Int, vs = ns.map (Value.int .u8) ∧ bs = ns.map (fun n => UInt8.ofNat n.toNat)
  | [], _, _, h, hb => by
    simp only [RepRow] at h; simp only [bytesOf, Option.some.injEq] at hb
    exact ⟨[], by simp [h], by simp [← hb]⟩
  | a :: l, _, _, h, hb => by
    obtain ⟨v, r, rfl, h1, h0, h2, h3⟩ := h
    simp only [bytesOf, Option.bind_eq_some_iff] at hb
    obtain ⟨b, hb1, r', hr', hb2⟩ := hb
    cases hb2
    obtain ⟨ns, rfl, rfl⟩ := bytes_row h3 hr'
    unfold byteOf at hb1
    split at hb1 <;> cases hb1
    rename_i n
    simp only [RepF] at h2
    subst h2
    exact ⟨n :: ns, by simp [Value.cells], by simp⟩

theorem foldl_push : ∀ (ns : List Int) (s : ByteArray), ns.foldl (fun r n => r.push (UInt8.ofNat n.toNat)) s = ⟨s.data ++ (ns.map (fun n => UInt8.ofNat n.toNat)).toArray⟩
  | [], s => by apply ByteArray.ext; simp
  | n :: ns, s => by
    rw [List.foldl_cons, foldl_push ns]
    apply ByteArray.ext
    simp [ByteArray.push]

/-- A slice that may be read. -/
theorem rep_sl_read {w : World} {C : Ctx} {st : St} (hcons : ∀ g, st.cons g = true ↔ C.own g = .dead) {o : Option (Stamp × Nat)} {nb : Bool} {sz : Nat} {l : List AV} {u : Value}
    (h : Rep w C (.sl o nb sz l) u) (ha : st.alive o = true) :
    (nb = true ∧ l = [] ∧ u = .slice none 0 0) ∨ (nb = false ∧ ∃ b off cap vs sp, u = .slice (some ⟨b, off, sp⟩) l.length cap ∧ l.length ≤ cap ∧ (vs = [] ∨ sp = none) ∧ cellsAt w b off vs ∧ RepRow w C.Sh sz l vs) := by
  cases o with
  | none =>
    rcases h with h | ⟨h0, b, off, cap, vs, sp, h1, h2, h3, h4⟩
    · exact .inl h
    · refine .inr ⟨h0, b, off, cap, vs, sp, h1, h2, ?_⟩
      rcases h3 with rfl | ⟨h3, _, h5⟩
      · have e : vs = [] := by
          have := h4.length
          exact List.eq_nil_of_length_eq_zero (by rw [this, Nat.le_zero.1 h2, Nat.zero_mul])
        exact ⟨.inl e, by subst e; exact fun j v hj => by simp at hj, h4⟩
      · exact ⟨.inr h3, h5, h4⟩
  | some p =>
    obtain ⟨g, eo⟩ := p
    rcases h with h | h | ⟨h0, b, base, off, cap, vs, _, _, h1, h2, h3, h4, _⟩
    · have := (hcons g).2 h
      simp [St.alive, this] at ha
    · exact .inl h
    · exact .inr ⟨h0, b, off, cap, vs, none, h1, h2, .inr rfl, h3, h4⟩

theorem pvConv_ok {st : St} {src dst : TypeId} {x v : AV} (h : pvConv P st src dst x = some v) {w : World} {C : Ctx} (hcons : ∀ g, st.cons g = true ↔ C.own g = .dead)
    {u1 : Value} (h1 : Rep w C x u1) : ∃ u, (convert src dst u1).run P w = .ok u w ∧ Rep w C v u := by
  unfold pvConv at h
  split at h
  · obtain ⟨hs, h⟩ := need_some h
    obtain ⟨ds, hs⟩ := Option.isSome_iff_exists.1 hs
    simp only [Rep] at h1; subst h1
    split at h <;> cases h
    · rename_i k hk
      exact ⟨_, by simp [convert, run_underlying hs, run_underlying hk, Conv.intToInt], rfl⟩
    · rename_i hk
      exact ⟨.string (Utf8.encode _), by simp [convert, run_underlying hs, run_underlying hk, Conv.intToString]; rfl, by simp [Rep]⟩
  · obtain ⟨hs, h⟩ := need_some h
    obtain ⟨ds, hs⟩ := Option.isSome_iff_exists.1 hs
    simp only [Rep] at h1; subst h1
    split at h <;> cases h
    rename_i hk
    exact ⟨_, by simp [convert, run_underlying hs, run_underlying hk], rfl⟩
  · split at h
    · rename_i E hs hd
      split at h
      · rename_i he
        obtain ⟨⟨ha, hsz⟩, h'⟩ := need_some h
        subst hsz
        simp only [Option.map_eq_some_iff] at h'
        obtain ⟨bs, hbs, rfl⟩ := h'
        rcases rep_sl_read hcons h1 ha with ⟨_, rfl, rfl⟩ | ⟨_, b, off, cap, vs, sp, rfl, _, hsp, hc, hr⟩
        · simp only [bytesOf, Option.some.injEq] at hbs; subst hbs
          exact ⟨.string .empty, by rw [run_convert_bytes_string w src dst E none 0 0 hs he hd]; simp [Conv.bytesToString], rfl⟩
        · obtain ⟨ns, rfl, rfl⟩ := bytes_row hr hbs
          have hlen : (ns.map (Value.int .u8)).length = (‹List AV› : List AV).length := by have := hr.length; simpa using this
          have hl := run_loadCells_list (P := P) w ⟨b, off, sp⟩ (ns.map (Value.int .u8)) (fun j v hv => by
            rcases hsp with hsp | rfl
            · rw [hsp] at hv; simp at hv
            · rw [Addr.add_mid]; exact hc j v hv)
          rw [hlen] at hl
          refine ⟨.string ⟨(ns.map (fun n : Int => UInt8.ofNat n.toNat)).toArray⟩, ?_, rfl⟩
          rw [run_convert_bytes_string w src dst E _ _ _ hs he hd, run_bytesToString w _ _ cap ns hl, foldl_push]
          congr 2
          apply ByteArray.ext
          simp
      · cases h
    · cases h
  · cases h

/-! ### Parts of what is whole -/

def pvPart (P : Program) (T : TypeId) (cs : List AV) (off : Nat) : Option AV :=
  if P.isAggT T = true then need (off + P.cellsOf T ≤ cs.length) (some (.agg ((cs.drop off).take (P.cellsOf T)))) else cs[off]?

theorem run_isAgg {T : TypeId} (h : (P.underlying T).isSome = true) (w : World) : (isAgg T).run P w = .ok (P.isAggT T) w := by
  obtain ⟨d, hd⟩ := Option.isSome_iff_exists.1 h
  unfold isAgg Program.isAggT
  rw [Sem.run_bind, run_underlying hd w, hd]
  cases d <;> simp

theorem run_sizeOf {T : TypeId} (h : (P.info? T).isSome = true) (w : World) : (sizeOf T).run P w = .ok (P.cellsOf T) w := by
  obtain ⟨d, hd⟩ := Option.isSome_iff_exists.1 h
  simp [sizeOf, typeInfo, Program.cellsOf, hd]

theorem pvPart_ok {T : TypeId} {cs : List AV} {off : Nat} {v : AV} (h : pvPart P T cs off = some v) (hT : (P.underlying T).isSome = true) (hI : (P.info? T).isSome = true)
    {w : World} {C : Ctx} {vs : List Value} (hr : RepS w C cs vs) : ∃ u, (part T vs.toArray off).run P w = .ok u w ∧ Rep w C v u := by
  unfold pvPart at h
  split at h
  · rename_i ha
    obtain ⟨hl, h⟩ := need_some h
    cases h
    refine ⟨.agg (vs.toArray.extract off (off + P.cellsOf T)), by simp [part, run_isAgg hT, run_sizeOf hI, ha], ((vs.drop off).take (P.cellsOf T)), ?_, (hr.drop off).take _⟩
    congr 1
    apply Array.ext'
    simp [List.take_drop]
  · rename_i ha
    obtain ⟨u, h1, _, h2⟩ := hr.get h
    exact ⟨u, by simp [part, run_isAgg hT, ha, h1], h2⟩

def pvField (P : Program) (S : TypeId) (x : AV) (f : Nat) : Option AV :=
  match x with
  | .agg cs =>
    match P.underlying S with
    | some (.struct fs) =>
      match fs[f]? with
      | some fd => need ((P.underlying fd.type).isSome = true ∧ (P.info? fd.type).isSome = true) (pvPart P fd.type cs fd.offset)
      | none => none
    | _ => none
  | _ => none

theorem pvField_ok {S : TypeId} {x v : AV} {f : Nat} (h : pvField P S x f = some v) {w : World} {C : Ctx} {u1 : Value} (h1 : Rep w C x u1) :
    ∃ u, (Instr.field S u1 f).run P w = .ok u w ∧ Rep w C v u := by
  unfold pvField at h
  split at h
  · split at h
    · rename_i cs fs hS
      split at h
      · rename_i fd hf
        obtain ⟨⟨hT, hI⟩, h⟩ := need_some h
        obtain ⟨vs, rfl, hr⟩ := h1
        obtain ⟨u, hu, hv⟩ := pvPart_ok h hT hI hr
        exact ⟨u, by simp [Instr.field, run_underlying hS, hf, asAgg, hu], hv⟩
      · cases h
    · cases h
  · cases h

/-- An index into an array that is a value, or a text. -/
def pvIndex (P : Program) (T : TypeId) (x i : AV) : Option AV :=
  match x, i with
  | .agg cs, .int _ n =>
    match P.underlying T with
    | some (.array len E) => need (0 ≤ n ∧ n < len ∧ (P.underlying E).isSome = true ∧ (P.info? E).isSome = true) (pvPart P E cs (n.toNat * P.cellsOf E))
    | _ => none
  | .str l, .int _ n =>
    match P.underlying T with
    | some .string => need (0 ≤ n) ((l[n.toNat]?).map u8)
    | _ => none
  | _, _ => none

theorem pvIndex_ok {T : TypeId} {x i v : AV} (h : pvIndex P T x i = some v) {w : World} {C : Ctx} {u1 u2 : Value} (h1 : Rep w C x u1) (h2 : Rep w C i u2) :
    ∃ u, (Instr.index T u1 u2).run P w = .ok u w ∧ Rep w C v u := by
  unfold pvIndex at h
  split at h
  · split at h
    · rename_i hT
      obtain ⟨⟨h0, hn, hE, hI⟩, h⟩ := need_some h
      obtain ⟨vs, rfl, hr⟩ := h1
      simp only [Rep] at h2; subst h2
      obtain ⟨u, hu, hv⟩ := pvPart_ok h hE hI hr
      exact ⟨u, by simp [Instr.index, run_underlying hT, asIntOf, h0, hn, run_sizeOf hI, hu], hv⟩
    · cases h
  · split at h
    · rename_i hT
      obtain ⟨h0, h⟩ := need_some h
      simp only [Option.map_eq_some_iff] at h
      obtain ⟨c, hc, rfl⟩ := h
      simp only [Rep] at h1 h2; subst h1; subst h2
      refine ⟨.int .u8 c.toNat, ?_, rfl⟩
      have hlt := (List.getElem?_eq_some_iff.1 hc).1
      have : (⟨(‹List UInt8› : List UInt8).toArray⟩ : ByteArray)[(‹Int› : Int).toNat]? = some c := by
        have e := (List.getElem?_eq_some_iff.1 hc).2
        rw [getElem?_pos _ _ (by simpa [ByteArray.size] using hlt)]
        rw [← e]
        rfl
      simp [Instr.index, run_underlying hT, asIntOf, h0, this]
    · cases h
  · cases h
end Go.VS
