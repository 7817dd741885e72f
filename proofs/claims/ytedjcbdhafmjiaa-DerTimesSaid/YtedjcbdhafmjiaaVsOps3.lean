/- Part of a framework that states what Go functions answer on values as data; it holds for every program of the model. -/
import Derived.Test.YtedjcbdhafmjiaaVsOps2
namespace Go.VS
set_option linter.unusedVariables false
set_option linter.unusedSimpArgs false
set_option linter.unusedSectionVars false
open Go
variable {P : Program}

/-! ### Addresses -/

def pvFieldAddr (P : Program) (st : St) (S : TypeId) (x : AV) (f : Nat) : Option AV :=
  match P.underlying S with
  | some (.struct fs) =>
    match fs[f]? with
    | some fd => need ((P.info? fd.type).isSome = true ∧ P.cellsOf fd.type ≠ 0)
        (match x with
         | .ptr id off => some (.ptr id (off + fd.offset))
         | .eptr o sz l i off => need (st.alive o = true ∧ off + fd.offset < sz) (some (.eptr o sz l i (off + fd.offset)))
         | _ => none)
    | none => none
  | _ => none

theorem Addr.add_plain (b o n : Nat) : Addr.add ⟨b, o, none⟩ n = ⟨b, o + n, none⟩ := by
  unfold Addr.add; split <;> simp_all

theorem run_fieldAt {S : TypeId} {fs : Array Field} {f : Nat} {fd : Field} (hS : P.underlying S = some (.struct fs)) (hf : fs[f]? = some fd) (hI : (P.info? fd.type).isSome = true)
    (h0 : P.cellsOf fd.type ≠ 0) (b o : Nat) (w : World) : (Instr.fieldAt S (.pointer (some ⟨b, o, none⟩)) f).run P w = .ok (.pointer (some ⟨b, o + fd.offset, none⟩)) w := by
  simp [Instr.fieldAt, run_underlying hS, hf, Instr.sureAddr, fieldPlace, run_sizeOf hI, h0, Addr.add_plain]

/-- An element's address that may be used. -/
theorem rep_eptr_read {w : World} {C : Ctx} {st : St} (hcons : ∀ g, st.cons g = true ↔ C.own g = .dead) {o : Option (Stamp × Nat)} {sz : Nat} {l : List AV} {i off : Nat} {u : Value}
    (h : Rep w C (.eptr o sz l i off) u) (ha : st.alive o = true) :
    ∃ b o' vs, u = .pointer (some ⟨b, o' + i * sz + off, none⟩) ∧ i < l.length ∧ off < sz ∧ cellsAt w b o' vs ∧ RepRow w C.Sh sz l vs ∧
      (∀ off' , off' < sz → Rep w C (.eptr o sz l i off') (.pointer (some ⟨b, o' + i * sz + off', none⟩))) := by
  cases o with
  | none =>
    obtain ⟨b, o', vs, h1, h2, h3, h4, h5, h6⟩ := h
    exact ⟨b, o', vs, h1, h2, h3, h5, h6, fun off' ho => ⟨b, o', vs, rfl, h2, ho, h4, h5, h6⟩⟩
  | some p =>
    obtain ⟨g, eo⟩ := p
    rcases h with h | ⟨b, base, vs, h0, h1, h2, h3, h4, h5, h7⟩
    · have := (hcons g).2 h
      simp [St.alive, this] at ha
    · exact ⟨b, base + eo * sz, vs, h1, h2, h3, h4, h5, fun off' ho => .inr ⟨b, base, vs, h0, rfl, h2, ho, h4, h5, h7⟩⟩

theorem pvFieldAddr_ok {st : St} {S : TypeId} {x v : AV} {f : Nat} (h : pvFieldAddr P st S x f = some v) {w : World} {C : Ctx} (hcons : ∀ g, st.cons g = true ↔ C.own g = .dead)
    {u1 : Value} (h1 : Rep w C x u1) : ∃ u, (Instr.fieldAt S u1 f).run P w = .ok u w ∧ Rep w C v u := by
  unfold pvFieldAddr at h
  split at h
  · rename_i fs hS
    split at h
    · rename_i fd hf
      obtain ⟨⟨hI, h0⟩, h'⟩ := need_some h
      split at h'
      · cases h'
        obtain ⟨b, hb, rfl⟩ := h1
        exact ⟨_, run_fieldAt hS hf hI h0 _ _ w, b, hb, rfl⟩
      · obtain ⟨⟨ha, ho⟩, h''⟩ := need_some h'
        cases h''
        obtain ⟨b, o', vs, rfl, h2, h3, h4, h5, h6⟩ := rep_eptr_read hcons h1 ha
        exact ⟨_, run_fieldAt hS hf hI h0 _ _ w, by rw [Nat.add_assoc]; exact h6 _ ho⟩
      · cases h'
    · cases h
  · cases h

def pvIndexAddr (P : Program) (st : St) (T : TypeId) (x i : AV) : Option AV :=
  match i with
  | .int _ n =>
    match P.underlying T with
    | some (.slice E) =>
      match x with
      | .sl o _ sz l => need (st.alive o = true ∧ 0 ≤ n ∧ n < l.length ∧ P.cellsOf E = sz ∧ 0 < sz ∧ (P.info? E).isSome = true) (some (.eptr o sz l n.toNat 0))
      | .bsl id off len _ => need (0 ≤ n ∧ n < len ∧ P.cellsOf E = 1 ∧ (P.info? E).isSome = true) (some (.ptr id (off + n.toNat)))
      | _ => none
    | some (.array len E) =>
      match x with
      | .ptr id off => need (0 ≤ n ∧ n < len ∧ (P.info? E).isSome = true) (some (.ptr id (off + n.toNat * P.cellsOf E)))
      | .eptr o sz l j off => need (st.alive o = true ∧ 0 ≤ n ∧ n < len ∧ (P.info? E).isSome = true ∧ off + n.toNat * P.cellsOf E < sz) (some (.eptr o sz l j (off + n.toNat * P.cellsOf E)))
      | _ => none
    | _ => none
  | _ => none

theorem run_indexAt_slice {T E : TypeId} (hT : P.underlying T = some (.slice E)) (hI : (P.info? E).isSome = true) (b o len cap : Nat) (k : IntKind) (n : Int) (h0 : 0 ≤ n) (h1 : n < len) (w : World) :
    (Instr.indexAt T (.slice (some ⟨b, o, none⟩) len cap) (.int k n)).run P w = .ok (.pointer (some ⟨b, o + n.toNat * P.cellsOf E, none⟩)) w := by
  simp [Instr.indexAt, run_underlying hT, asIntOf, h0, h1, run_sizeOf hI, Addr.add_plain]

theorem run_indexAt_array {T E : TypeId} {len : Nat} (hT : P.underlying T = some (.array len E)) (hI : (P.info? E).isSome = true) (b o : Nat) (k : IntKind) (n : Int) (h0 : 0 ≤ n) (h1 : n < len) (w : World) :
    (Instr.indexAt T (.pointer (some ⟨b, o, none⟩)) (.int k n)).run P w = .ok (.pointer (some ⟨b, o + n.toNat * P.cellsOf E, none⟩)) w := by
  simp [Instr.indexAt, run_underlying hT, asIntOf, h0, h1, run_sizeOf hI, Addr.add_plain, Instr.sureAddr]

theorem rep_sl_elem {w : World} {C : Ctx} {st : St} (hcons : ∀ g, st.cons g = true ↔ C.own g = .dead) {o : Option (Stamp × Nat)} {nb : Bool} {sz : Nat} {l : List AV} {u : Value}
    (h : Rep w C (.sl o nb sz l) u) (ha : st.alive o = true) {i : Nat} (hi : i < l.length) (hsz : 0 < sz) :
    ∃ b off cap, u = .slice (some ⟨b, off, none⟩) l.length cap ∧ Rep w C (.eptr o sz l i 0) (.pointer (some ⟨b, off + i * sz, none⟩)) := by
  cases o with
  | none =>
    rcases h with ⟨_, h, _⟩ | ⟨h0, b, off, cap, vs, sp, h1, h2, h5, h4⟩
    · rw [h] at hi; simp at hi
    · obtain ⟨rfl, hs, h3⟩ := h5.resolve_left (by omega)
      exact ⟨b, off, cap, h1, b, off, vs, rfl, hi, hsz, hs, h3, h4⟩
  | some p =>
    obtain ⟨g, eo⟩ := p
    rcases h with h | ⟨_, h, _⟩ | ⟨h0, b, base, off, cap, vs, hg, hoff, h1, h2, h3, h4, h5⟩
    · have := (hcons g).2 h
      simp [St.alive, this] at ha
    · rw [h] at hi; simp at hi
    · obtain rfl : off = base + eo * sz := hoff.resolve_right (by omega)
      exact ⟨b, _, cap, h1, .inr ⟨b, base, vs, hg, rfl, hi, hsz, h3, h4, h5.le (Nat.add_le_add_left (Nat.mul_le_mul_right _ h2) _)⟩⟩

theorem pvIndexAddr_ok {st : St} {T : TypeId} {x i v : AV} (h : pvIndexAddr P st T x i = some v) {w : World} {C : Ctx} (hcons : ∀ g, st.cons g = true ↔ C.own g = .dead)
    {u1 u2 : Value} (h1 : Rep w C x u1) (h2 : Rep w C i u2) : ∃ u, (Instr.indexAt T u1 u2).run P w = .ok u w ∧ Rep w C v u := by
  unfold pvIndexAddr at h
  split at h
  · simp only [Rep] at h2; subst h2
    split at h
    · rename_i E hT
      split at h
      · obtain ⟨⟨ha, h0, hn, hE, hsz, hI⟩, h'⟩ := need_some h
        cases h'
        obtain ⟨b, off, cap, rfl, hr⟩ := rep_sl_elem hcons h1 ha (i := (‹Int› : Int).toNat) (by omega) hsz
        exact ⟨_, run_indexAt_slice hT hI _ _ _ _ _ _ h0 hn w, by rw [hE]; exact hr⟩
      · obtain ⟨⟨h0, hn, hE, hI⟩, h'⟩ := need_some h
        cases h'
        obtain ⟨b, hb, rfl, _⟩ := h1
        exact ⟨_, run_indexAt_slice hT hI _ _ _ _ _ _ h0 hn w, b, hb, by rw [hE, Nat.mul_one]⟩
      · cases h
    · rename_i len E hT
      split at h
      · obtain ⟨⟨h0, hn, hI⟩, h'⟩ := need_some h
        cases h'
        obtain ⟨b, hb, rfl⟩ := h1
        exact ⟨_, run_indexAt_array hT hI _ _ _ _ h0 hn w, b, hb, rfl⟩
      · obtain ⟨⟨ha, h0, hn, hI, ho⟩, h'⟩ := need_some h
        cases h'
        obtain ⟨b, o', vs, rfl, h2, h3, h4, h5, h6⟩ := rep_eptr_read hcons h1 ha
        exact ⟨_, run_indexAt_array hT hI _ _ _ _ h0 hn w, by rw [Nat.add_assoc]; exact h6 _ ho⟩
      · cases h
    · cases h
  · cases h

/-! ### Loads -/

theorem run_loadAt_agg {T : TypeId} (ha : P.isAggT T = true) (hI : (P.info? T).isSome = true) {w : World} {b off : Nat} {vs : List Value} (hc : cellsAt w b off vs) (hl : vs.length = P.cellsOf T) :
    (Instr.loadAt T (.pointer (some ⟨b, off, none⟩))).run P w = .ok (.agg vs.toArray) w := by
  obtain ⟨i, hi⟩ := Option.isSome_iff_exists.1 hI
  have hs : (P.info? T).map (·.size) = some vs.length := by
    rw [hl]; simp [Program.cellsOf, hi]
  unfold Program.isAggT at ha
  split at ha
  · rename_i d hd
    exact run_loadAt_mid w b off T vs _ hc hd rfl hs
  · rename_i d e hd
    exact run_loadAt_mid w b off T vs _ hc hd rfl hs
  · cases ha

theorem run_loadAt_one {T : TypeId} (ha : P.isAggT T = false) (hT : (P.underlying T).isSome = true) {w : World} {b off : Nat} {v : Value} (hc : w.cell? ⟨b, off, none⟩ = some v) :
    (Instr.loadAt T (.pointer (some ⟨b, off, none⟩))).run P w = .ok v w := by
  simp [Instr.loadAt, Instr.sureAddr, loadVar, run_isAgg hT, ha, hc]

def pvLoad (P : Program) (st : St) (T : TypeId) (x : AV) : Option AV :=
  match x with
  | .ptr id off => need ((P.underlying T).isSome = true ∧ (P.info? T).isSome = true) ((st.bx id).bind fun cs => pvPart P T cs off)
  | .eptr o sz l i off => need ((P.underlying T).isSome = true ∧ (P.info? T).isSome = true ∧ st.alive o = true)
      ((l[i]?).bind fun e => need (e.cells.length = sz) (pvPart P T e.cells off))
  | _ => none

theorem RepS_of_box {w : World} {C : Ctx} {id : Nat} {cs : List AV} (h : BoxAt w C id cs) : ∃ b vs, C.box id = some b ∧ cellsAt w b 0 vs ∧ RepS w C cs vs := by
  obtain ⟨b, c, e, lo, hi, h1, h2, h3, h4⟩ := h
  refine ⟨b, c.toList, h1, fun j v hj => ?_, h4⟩
  simp only [World.cell?, h2, Nat.zero_add]
  simpa using hj

theorem load_part {T : TypeId} {cs : List AV} {off : Nat} {v : AV} (h : pvPart P T cs off = some v) (hT : (P.underlying T).isSome = true) (hI : (P.info? T).isSome = true)
    {w : World} {C : Ctx} {b o : Nat} {vs : List Value} (hc : cellsAt w b o vs) (hr : RepS w C cs vs) :
    ∃ u, (Instr.loadAt T (.pointer (some ⟨b, o + off, none⟩))).run P w = .ok u w ∧ Rep w C v u := by
  unfold pvPart at h
  split at h
  · rename_i ha
    obtain ⟨hl, h'⟩ := need_some h
    cases h'
    have hlen := hr.length
    refine ⟨_, run_loadAt_agg ha hI ((hc.drop off).take (P.cellsOf T)) (by simp; omega), _, rfl, (hr.drop off).take _⟩
  · rename_i ha
    obtain ⟨u, h1, _, h2⟩ := hr.get h
    exact ⟨u, run_loadAt_one (by simpa using ha) hT (hc off u h1), h2⟩

theorem pvLoad_ok {st : St} {T : TypeId} {x v : AV} (h : pvLoad P st T x = some v) {w : World} {C : Ctx} (hcons : ∀ g, st.cons g = true ↔ C.own g = .dead)
    (hbox : ∀ id cs, st.bx id = some cs → BoxAt w C id cs) {u1 : Value} (h1 : Rep w C x u1) : ∃ u, (Instr.loadAt T u1).run P w = .ok u w ∧ Rep w C v u := by
  unfold pvLoad at h
  split at h
  · obtain ⟨⟨hT, hI⟩, h'⟩ := need_some h
    obtain ⟨cs, hcs, h''⟩ := Option.bind_eq_some_iff.1 h'
    obtain ⟨b, hb, rfl⟩ := h1
    obtain ⟨b', vs, hb', hc, hr⟩ := RepS_of_box (hbox _ _ hcs)
    obtain rfl : b = b' := by rw [hb] at hb'; exact Option.some.inj hb'
    have := load_part h'' hT hI hc hr
    simpa using this
  · rename_i o sz l i off
    obtain ⟨⟨hT, hI, ha⟩, h'⟩ := need_some h
    obtain ⟨e, he, h''⟩ := Option.bind_eq_some_iff.1 h'
    obtain ⟨hl, h3⟩ := need_some h''
    obtain ⟨b, o', vs, rfl, _, _, h4, h5, _⟩ := rep_eptr_read hcons h1 ha
    obtain ⟨ve, hv1, hv2, hv3, hv4⟩ := h5.get he
    have hc : cellsAt w b (o' + i * sz) ve.cells.toList := by rw [hv1]; exact (h4.drop _).take _
    exact load_part h3 hT hI hc (RepS.of_shared _ _ (hv4.cells (by rw [hv2, hl]) hv3))
  · cases h
end Go.VS
