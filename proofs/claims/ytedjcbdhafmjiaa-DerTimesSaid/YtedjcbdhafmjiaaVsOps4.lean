/- Part of a framework that states what Go functions answer on values as data; it holds for every program of the model. -/
import Derived.Test.YtedjcbdhafmjiaaVsOps3
namespace Go.VS
set_option linter.unusedVariables false
set_option linter.unusedSimpArgs false
set_option linter.unusedSectionVars false
open Go
variable {P : Program}

/-! ### Slicing -/

def natOf : AV → Option Nat
  | .int _ n => need (0 ≤ n) (some n.toNat)
  | _ => none

theorem natOf_rep {a : AV} {n : Nat} (h : natOf a = some n) {w : World} {C : Ctx} {u : Value} (hr : Rep w C a u) : ∃ k z, u = .int k z ∧ 0 ≤ z ∧ z.toNat = n := by
  unfold natOf at h
  split at h
  · obtain ⟨h0, h'⟩ := need_some h
    cases h'
    simp only [Rep] at hr
    exact ⟨_, _, hr, h0, rfl⟩
  · cases h

/-- The bounds of a slice expression over what has 'len' elements: from where, to where, and (if it is said) the last that it may grow to. -/
def bnds (len : Nat) (lo hi mx : Option AV) : Option (Nat × Nat × Option Nat) :=
  (match lo with | none => some 0 | some a => natOf a).bind fun l =>
  (match hi with | none => some len | some a => natOf a).bind fun h =>
  (match mx with | none => some none | some a => (natOf a).map some).bind fun m =>
  need (l ≤ h ∧ h ≤ len ∧ (∀ k ∈ m, h ≤ k ∧ k ≤ len) ∧ (m.isSome = true → hi.isSome = true)) (some (l, h, m))

inductive RepO (w : World) (C : Ctx) : Option AV → Option Value → Prop
  | none : RepO w C none none
  | some {a : AV} {u : Value} (h : Rep w C a u) : RepO w C (some a) (some u)

theorem run_sliceBound {k : IntKind} {z : Int} {y : Nat} (h0 : 0 ≤ z) (h1 : z.toNat ≤ y) (c : BoundsCode) (w : World) : (Instr.sliceBound (.int k z) y c).run P w = .ok z.toNat w := by
  have : z ≤ (y : Int) := by omega
  simp [Instr.sliceBound, asIntOf, h0, this]

theorem run_bnds {len cap : Nat} {lo hi mx : Option AV} {l h : Nat} {m : Option Nat} (hb : bnds len lo hi mx = some (l, h, m)) (hc : len ≤ cap) (isS : Bool) {w : World} {C : Ctx}
    {lo' hi' mx' : Option Value} (h1 : RepO w C lo lo') (h2 : RepO w C hi hi') (h3 : RepO w C mx mx') :
    (Instr.sliceBounds isS len cap lo' hi' mx').run P w = .ok (l, h, m.getD cap) w ∧ l ≤ h ∧ h ≤ len ∧ h ≤ m.getD cap ∧ m.getD cap ≤ cap ∧ (m.isSome = true → m.getD cap ≤ len) := by
  unfold bnds at hb
  obtain ⟨l', hl, hb⟩ := Option.bind_eq_some_iff.1 hb
  obtain ⟨h', hh, hb⟩ := Option.bind_eq_some_iff.1 hb
  obtain ⟨m', hm, hb⟩ := Option.bind_eq_some_iff.1 hb
  obtain ⟨⟨c1, c2, c3, c4⟩, hb⟩ := need_some hb
  cases hb
  cases h3 with
  | none =>
    cases hm
    refine ⟨?_, c1, c2, by simp; omega, by simp, by simp⟩
    cases h2 with
    | none =>
      cases hh
      cases h1 with
      | none => cases hl; simp [Instr.sliceBounds]
      | some hr =>
        obtain ⟨k, z, rfl, z0, rfl⟩ := natOf_rep hl hr
        simp [Instr.sliceBounds, run_sliceBound z0 c1]
    | some hr =>
      obtain ⟨k, z, rfl, z0, rfl⟩ := natOf_rep hh hr
      cases h1 with
      | none => cases hl; simp [Instr.sliceBounds, run_sliceBound z0 (Nat.le_trans c2 hc)]
      | some hr =>
        obtain ⟨k, z', rfl, z0', rfl⟩ := natOf_rep hl hr
        simp [Instr.sliceBounds, run_sliceBound z0 (Nat.le_trans c2 hc), run_sliceBound z0' c1]
  | some hr =>
    obtain ⟨m'', hm', rfl⟩ := Option.map_eq_some_iff.1 hm
    obtain ⟨k, z, rfl, z0, rfl⟩ := natOf_rep hm' hr
    obtain ⟨d1, d2⟩ := c3 _ rfl
    refine ⟨?_, c1, c2, by simpa using d1, by simp; omega, fun _ => by simpa using d2⟩
    cases h2 with
    | none => simp at c4
    | some hr2 =>
      obtain ⟨k2, z2, rfl, z20, rfl⟩ := natOf_rep hh hr2
      cases h1 with
      | none => cases hl; simp [Instr.sliceBounds, run_sliceBound z0 (Nat.le_trans d2 hc), run_sliceBound z20 d1]
      | some hr3 =>
        obtain ⟨k3, z3, rfl, z30, rfl⟩ := natOf_rep hl hr3
        simp [Instr.sliceBounds, run_sliceBound z0 (Nat.le_trans d2 hc), run_sliceBound z20 d1, run_sliceBound z30 c1]

def ownAt (o : Option (Stamp × Nat)) (n : Nat) : Option (Stamp × Nat) :=
  match o with
  | none => none
  | some (g, eo) => some (g, eo + n)

def pvSlice (P : Program) (st : St) (T : TypeId) (x : AV) (lo hi mx : Option AV) : Option AV :=
  match P.underlying T with
  | some .string =>
    match x, mx with
    | .str l, none => (bnds l.length lo hi none).bind fun b => some (.str ((l.drop b.1).take (b.2.1 - b.1)))
    | _, _ => none
  | some (.slice E) =>
    match x with
    | .sl o nb sz l => need (st.alive o = true ∧ P.cellsOf E = sz ∧ (P.info? E).isSome = true)
        ((bnds l.length lo hi mx).bind fun b => some (.sl (ownAt o b.1) nb sz ((l.drop b.1).take (b.2.1 - b.1))))
    | .bsl id off len cap => need (P.cellsOf E = 1 ∧ (P.info? E).isSome = true)
        ((bnds len lo hi mx).bind fun b => need (b.1 < b.2.2.getD cap ∨ b.1 = 0) (some (.bsl id (off + b.1) (b.2.1 - b.1) (b.2.2.getD cap - b.1))))
    | _ => none
  | some (.array n E) =>
    match x with
    | .ptr id off => need (P.cellsOf E = 1 ∧ (P.info? E).isSome = true)
        ((bnds n lo hi mx).bind fun b => need (b.1 < b.2.2.getD n ∨ b.1 = 0) (some (.bsl id (off + b.1) (b.2.1 - b.1) (b.2.2.getD n - b.1))))
    | _ => none
  | _ => none

theorem run_slice_of {T E : TypeId} (hT : P.underlying T = some (.slice E)) (hI : (P.info? E).isSome = true) {a : Option Addr} {len cap : Nat} {lo hi mx : Option Value} {l h m : Nat} {w : World}
    (hb : (Instr.sliceBounds true len cap lo hi mx).run P w = .ok (l, h, m) w) :
    (Instr.sliceAt T (.slice a len cap) lo hi mx).run P w = .ok (.slice (if m = l then a else a.map (·.add (l * P.cellsOf E))) (h - l) (m - l)) w := by
  simp [Instr.sliceAt, Instr.slice, run_underlying hT, hb, run_sizeOf hI]

theorem cut_row {w : World} {Sh : Nat → Prop} {sz : Nat} {l : List AV} {vs : List Value} (h : RepRow w Sh sz l vs) (a n : Nat) :
    RepRow w Sh sz ((l.drop a).take n) ((vs.drop (a * sz)).take (n * sz)) := (h.drop a).take n

theorem pvSlice_ok {st : St} {T : TypeId} {x v : AV} {lo hi mx : Option AV} (h : pvSlice P st T x lo hi mx = some v) {w : World} {C : Ctx} (hcons : ∀ g, st.cons g = true ↔ C.own g = .dead)
    {u1 : Value} {lo' hi' mx' : Option Value} (h0 : Rep w C x u1) (h1 : RepO w C lo lo') (h2 : RepO w C hi hi') (h3 : RepO w C mx mx') :
    ∃ u, (Instr.sliceAt T u1 lo' hi' mx').run P w = .ok u w ∧ Rep w C v u := by
  unfold pvSlice at h
  split at h
  · rename_i hT
    split at h
    · rename_i l
      obtain ⟨⟨a, b, m⟩, hb, h'⟩ := Option.bind_eq_some_iff.1 h
      cases h'
      cases h3
      simp only [Rep] at h0; subst h0
      obtain ⟨hr, c1, c2, _⟩ := run_bnds (P := P) hb (Nat.le_refl _) false h1 h2 RepO.none
      have hsz : (⟨l.toArray⟩ : ByteArray).size = l.length := by simp [ByteArray.size]
      refine ⟨.string ((⟨l.toArray⟩ : ByteArray).extract a b), by simp [Instr.sliceAt, Instr.slice, run_underlying hT, hsz, hr], ?_⟩
      simp only [Rep]
      congr 1
      apply ByteArray.ext
      simp [ByteArray.data_extract, List.take_drop]
    · cases h
  · rename_i E hT
    split at h
    · rename_i o nb sz l
      obtain ⟨⟨ha, hsz, hI⟩, h'⟩ := need_some h
      obtain ⟨⟨a, b, m⟩, hb, h''⟩ := Option.bind_eq_some_iff.1 h'
      cases h''
      subst hsz
      cases o with
      | none =>
        rcases h0 with ⟨hn, rfl, rfl⟩ | ⟨hn, bb, off, cap, vs, sp, rfl, hlc, hsh, hr⟩
        · obtain ⟨hr, c1, c2, c3, c4, _⟩ := run_bnds (P := P) hb (Nat.le_refl _) true h1 h2 h3
          simp only [List.length_nil] at c2 c4 hr
          obtain rfl : b = 0 := by omega
          obtain rfl : a = 0 := by omega
          refine ⟨_, run_slice_of hT hI hr, .inl ⟨hn, by simp, ?_⟩⟩
          have : m.getD 0 = 0 := by omega
          simp [this]
        · obtain ⟨hrun, c1, c2, c3, c4, _⟩ := run_bnds (P := P) hb hlc true h1 h2 h3
          refine ⟨_, run_slice_of hT hI hrun, .inr ⟨hn, ?_⟩⟩
          have hlen : ((l.drop a).take (b - a)).length = b - a := by simp; omega
          have hcut := cut_row hr a (b - a)
          by_cases hm : m.getD cap = a
          · have hz : b - a = 0 := by omega
            refine ⟨bb, off, m.getD cap - a, [], sp, by rw [hlen]; simp [hm], by rw [hlen]; omega, .inl (by omega), ?_⟩
            rw [hz]; simp [RepRow]
          · obtain ⟨rfl, hsh, hc⟩ := hsh.resolve_left (by omega)
            refine ⟨bb, off + a * P.cellsOf E, m.getD cap - a, _, none, by rw [hlen]; simp [hm, Addr.add_plain], by rw [hlen]; omega, .inr ⟨rfl, hsh, (hc.drop _).take _⟩, hcut⟩
      | some p =>
        obtain ⟨g, eo⟩ := p
        have hd : C.own g ≠ .dead := fun e => by
          have := (hcons g).2 e
          simp [St.alive, this] at ha
        rcases h0 with h0 | ⟨hn, rfl, rfl⟩ | ⟨hn, bb, base, off, cap, vs, hg, hoff, rfl, hlc, hc, hr, hop⟩
        · exact absurd h0 hd
        · obtain ⟨hr, c1, c2, c3, c4, _⟩ := run_bnds (P := P) hb (Nat.le_refl _) true h1 h2 h3
          simp only [List.length_nil] at c2 c4 hr
          obtain rfl : b = 0 := by omega
          obtain rfl : a = 0 := by omega
          refine ⟨_, run_slice_of hT hI hr, .inr (.inl ⟨hn, by simp, ?_⟩)⟩
          have : m.getD 0 = 0 := by omega
          simp [this]
        · obtain ⟨hrun, c1, c2, c3, c4, _⟩ := run_bnds (P := P) hb hlc true h1 h2 h3
          refine ⟨_, run_slice_of hT hI hrun, .inr (.inr ⟨hn, ?_⟩)⟩
          have hlen : ((l.drop a).take (b - a)).length = b - a := by simp; omega
          have hcut := cut_row hr a (b - a)
          by_cases hm : m.getD cap = a
          · have hz : b - a = 0 := by omega
            refine ⟨bb, base, off, m.getD cap - a, [], hg, .inr (by omega), by rw [hlen]; simp [hm], by rw [hlen]; omega, fun j v hj => by simp at hj, ?_, ?_⟩
            · rw [hz]; simp [RepRow]
            · obtain ⟨c, e, l1, h1, q1, q2, q3⟩ := hop
              exact ⟨c, e, l1, h1, q1, by rw [hm]; simp; exact Nat.le_trans (Nat.le_add_right _ _) q2, q3⟩
          · have hcap : cap ≠ 0 := by omega
            obtain rfl : off = base + eo * P.cellsOf E := hoff.resolve_right hcap
            refine ⟨bb, base, base + eo * P.cellsOf E + a * P.cellsOf E, m.getD cap - a, _, hg, .inl (by simp only [Nat.add_mul]; omega), by rw [hlen]; simp [hm, Addr.add_plain], by rw [hlen]; omega, (hc.drop _).take _, hcut, ?_⟩
            obtain ⟨c, e, l1, h1, q1, q2, q3⟩ := hop
            refine ⟨c, e, l1, h1, q1, Nat.le_trans ?_ q2, q3⟩
            have : a * P.cellsOf E + (m.getD cap - a) * P.cellsOf E ≤ cap * P.cellsOf E := by
              rw [← Nat.add_mul]; exact Nat.mul_le_mul_right _ (by omega)
            omega
    · rename_i id off len cap
      obtain ⟨⟨hE, hI⟩, h'⟩ := need_some h
      obtain ⟨⟨a, b, m⟩, hb, h''⟩ := Option.bind_eq_some_iff.1 h'
      obtain ⟨hn, h3'⟩ := need_some h''
      cases h3'
      obtain ⟨bb, hbb, rfl, hlc⟩ := h0
      obtain ⟨hrun, c1, c2, c3, c4, _⟩ := run_bnds (P := P) hb hlc true h1 h2 h3
      refine ⟨_, run_slice_of hT hI hrun, bb, hbb, ?_, by simp; omega⟩
      by_cases hm : m.getD cap = a
      · simp only at hn
        obtain rfl : a = 0 := by omega
        simp [hm]
      · simp [hm, Addr.add_plain, hE]
    · cases h
  · rename_i n E hT
    split at h
    · rename_i id off
      obtain ⟨⟨hE, hI⟩, h'⟩ := need_some h
      obtain ⟨⟨a, b, m⟩, hb, h''⟩ := Option.bind_eq_some_iff.1 h'
      obtain ⟨hn, h3'⟩ := need_some h''
      cases h3'
      obtain ⟨bb, hbb, rfl⟩ := h0
      obtain ⟨hrun, c1, c2, c3, c4, _⟩ := run_bnds (P := P) hb (Nat.le_refl _) false h1 h2 h3
      refine ⟨.slice (some (if m.getD n = a then ⟨bb, off, none⟩ else Addr.add ⟨bb, off, none⟩ (a * P.cellsOf E))) (b - a) (m.getD n - a), ?_, bb, hbb, ?_, by simp; omega⟩
      · simp [Instr.sliceAt, Instr.sureAddr, run_underlying hT, hrun, run_sizeOf hI]
      · by_cases hm : m.getD n = a
        · simp only at hn
          obtain rfl : a = 0 := by omega
          simp [hm]
        · simp [hm, Addr.add_plain, hE]
    · cases h
  · cases h
end Go.VS
