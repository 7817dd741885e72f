/- Part of a framework that states what Go functions answer on values as data; it holds for every program of the model. -/
import Derived.Test.YtfemncfhiihckaaDoorVsLoop3
import Derived.WalkKit
import Derived.ProofKit
import Derived.OpenShut
import Derived.ShutString
import Derived.ChangeOld
import Derived.Below
import Derived.SizedLaws
import Derived.OwnWalk
import Derived.KernelRfl
import Derived.ChangeSlices
import Derived.ChangeStays
namespace Go.VS
set_option linter.unusedVariables false
set_option linter.unusedSimpArgs false
set_option linter.unusedSectionVars false
open Go Go.ChangeShapes Go.WideShapes Go.ChangeAt Go.RowKit
variable {P : Program}
/-- What a call by contract leaves: what was there is as it was. -/
theorem below_of {W W' : World} {Sh : Nat → Prop} {C : Ctx} {ht : tblOk W Sh} {hs : ∀ b, Sh b → b < W.heap.size} (m : MemOk (Ent.of W Sh 0 ht hs) (fun _ => false) C W') : Below W.heap.size W W' where
  os := m.os
  tape := m.tape
  output := m.output
  size := m.size
  block k hk := m.kept k hk (fun h => h)
def slicesB (P : Program) : Bool := (List.range P.types.size).all fun t => match P.underlying t with | some (.slice e) => decide (0 < P.cellsOf e) | _ => true
theorem slicesB_of (h : slicesB P = true) {t e : TypeId} (ht : t < P.types.size) (hu : P.underlying t = some (.slice e)) : 0 < P.cellsOf e := by
  have := List.all_eq_true.1 h t (List.mem_range.2 ht)
  rw [hu] at this
  simpa using this
/-- Arguments read as they did, behind a call that turned nothing. -/
theorem trodAll_stays {H : Type} {enc : TypeId × Value → H} {w w' : World} {sp' : Nat → Bool} (hl : laidOutB P = true) (hm : mapsRowed P = true) (hsl : slicesB P = true) : ∀ {ts : List TypeId} {vs : List Value} {ds : List (DataW H)} {ps : List MemPlace},
    (∀ t ∈ ts, t < P.types.size) → DataW.TrodAll enc P w 0 (fun _ => true) true ts vs ds ps → (∀ p ∈ ps, w.sameAt w' p) → (∀ p ∈ ps, sp' p.block = true) → DataW.TrodAll enc P w' 0 sp' true ts vs ds ps
  | [], vs, ds, ps, _, h, _, _ => by
    obtain ⟨rfl, rfl, rfl⟩ := trodAll_nil h
    exact trodAll_mk0
  | t :: ts, vs, ds, ps, ht, h, hs, hp => by
    obtain ⟨v, vs', d, ds', p, q, rfl, rfl, rfl, ⟨n, h0⟩, r⟩ := trodAll_cons h
    exact trodAll_cons_mk ⟨n, DataW.trod_stays (kids_rows hl hm) (fun ht hu => slicesB_of hsl ht hu) (fun hh => by cases hh) (ht t (by simp)) h0 (fun x hx => hs x (by simp at hx ⊢; exact .inl hx)) (fun x hx => hp x (by simp at hx ⊢; exact .inl hx))⟩
      (trodAll_stays hl hm hsl (fun t ht' => ht t (by simp [ht'])) r (fun x hx => hs x (by simp [hx])) (fun x hx => hp x (by simp [hx])))
end Go.VS
namespace Go.VS
set_option linter.unusedVariables false
set_option linter.unusedSimpArgs false
set_option linter.unusedSectionVars false
open Go Go.ChangeShapes Go.WideShapes Go.ChangeAt Go.RowKit
variable {P : Program}
def partsOk (ok : TypeId → AV → Prop) : List Field → List AV → Prop
  | [], ps => ps = []
  | f :: fs, ps => ∃ p r, ps = p :: r ∧ ok f.type p ∧ partsOk ok fs r
/-- Of what shape an argument's data is. -/
def argOk (P : Program) : Nat → TypeId → AV → Prop
  | 0, _, _ => False
  | f + 1, t, a =>
    match P.underlying t with
    | some .bool => ∃ b, a = .bool b
    | some (.int k) => ∃ n, a = .int k n ∧ (Lit.int k n).wf = true
    | some .string => ∃ l, a = .str l ∧ l.length ≤ maxLen ∧ l.length ≤ reachBytes
    | some (.slice e) => ∃ nb l, a = .sl none nb (P.cellsOf e) l ∧ (nb = true → l = []) ∧ l.length ≤ maxLen ∧ (∀ x ∈ l, argOk P f e x) ∧ l.length * P.bytesOf e ≤ reachBytes
    | some (.struct fs) => ∃ parts : List AV, a = .agg (parts.flatMap AV.cells) ∧ partsOk (argOk P f) fs.toList parts
    | some (.array n e) => ∃ parts : List AV, a = .agg (parts.flatMap AV.cells) ∧ parts.length = n ∧ ∀ x ∈ parts, argOk P f e x
    | _ => False
def lays (P : Program) : Nat → List Field → Option Nat
  | o, [] => some o
  | o, f :: fs => if f.offset = o then lays P (o + P.cellsOf f.type) fs else none
/-- Types that hold numbers, texts, yes or no, and slices, structs and arrays of such. -/
def plainTs (P : Program) (ts : List TypeId) : Bool := ts.all fun t =>
  match P.underlying t with
  | some .bool => true
  | some (.int _) => true
  | some .string => true
  | some (.slice e) => ts.contains e && decide (0 < P.cellsOf e)
  | some (.struct fs) => (fs.toList.all fun f => ts.contains f.type) && (lays P 0 fs.toList == some (P.cellsOf t))
  | some (.array n e) => ts.contains e && decide (P.cellsOf t = n * P.cellsOf e)
  | _ => false
/-- The value that cells make. -/
theorem val_of_cells {w : World} {Sh : Nat → Prop} {a : AV} {cs : List Value} (h : RepL w Sh a.cells cs) : ∃ v : Value, v.cells.toList = cs ∧ RepF w Sh a v := by
  have plain : ∀ {a : AV}, RepL w Sh [a] cs → ∃ v : Value, v.cells.toList = cs ∧ RepF w Sh a v := by
    intro a h
    obtain ⟨v, r, rfl, h1, h2, h3⟩ := h
    simp only [RepL] at h3; subst h3
    exact ⟨v, by cases v <;> first | rfl | (simp [Value.oneCell'] at h1), h2⟩
  cases a with
  | agg l => exact ⟨.agg cs.toArray, by simp [Value.cells], cs, rfl, h⟩
  | _ => exact plain h
theorem elems_ok {w : World} {sz n : Nat} {e : TypeId} {b off : Nat} (hsz : 0 < sz) : ∀ (len : Nat),
    (∀ i, i < len → ∃ cs a, (∀ j, j < sz → w.cell? ⟨b, off + i * sz + j, none⟩ = cs[j]?) ∧ cs.length = sz ∧ argOk P n e a ∧ RepL w (fun k => k < w.heap.size) a.cells cs) →
    ∃ l vs, l.length = len ∧ (∀ x ∈ l, argOk P n e x) ∧ cellsAt w b off vs ∧ RepRow w (fun k => k < w.heap.size) sz l vs
  | 0, _ => ⟨[], [], rfl, by simp, fun j v hj => by simp at hj, rfl⟩
  | len + 1, h => by
    obtain ⟨l, vs, h1, h2, h3, h4⟩ := elems_ok hsz len fun i hi => h i (by omega)
    obtain ⟨cs, a, c1, c2, c3, c4⟩ := h len (by omega)
    obtain ⟨v, v1, v2⟩ := val_of_cells c4
    have hvl : vs.length = len * sz := by rw [h4.length, h1]
    refine ⟨l ++ [a], vs ++ cs, by simp [h1], ?_, ?_, h4.append ⟨v, [], by simp [v1], by rw [← Array.length_toList, v1, c2], by rw [v1]; exact RepL.one c4, v2, rfl⟩⟩
    · intro x hx
      rcases List.mem_append.1 hx with hx | hx
      · exact h2 x hx
      · simp at hx; subst hx; exact c3
    · intro j v hj
      by_cases hlt : j < vs.length
      · rw [List.getElem?_append_left hlt] at hj
        exact h3 j v hj
      · rw [List.getElem?_append_right (by omega)] at hj
        have hj2 := (List.getElem?_eq_some_iff.1 hj).1
        have := c1 (j - vs.length) (by omega)
        rw [hj] at this
        rw [← this]
        congr 2
        omega
theorem lays_ok {w : World} {Sh : Nat → Prop} {n : Nat} {CS : List Value} : ∀ (fs : List Field) (o : Nat), lays P o fs = some CS.length →
    (∀ f ∈ fs, ∃ a, argOk P n f.type a ∧ RepL w Sh a.cells ((CS.drop f.offset).take (P.cellsOf f.type))) →
    ∃ parts, partsOk (argOk P n) fs parts ∧ RepL w Sh (parts.flatMap AV.cells) (CS.drop o)
  | [], o, h, _ => by
    simp only [lays, Option.some.injEq] at h
    subst h
    exact ⟨[], rfl, by simp [RepL]⟩
  | f :: fs, o, h, hp => by
    simp only [lays] at h
    split at h
    · rename_i ho
      obtain ⟨a, h1, h2⟩ := hp f (by simp)
      obtain ⟨parts, h3, h4⟩ := lays_ok fs _ h fun g hg => hp g (by simp [hg])
      refine ⟨a :: parts, ⟨a, parts, rfl, h1, h3⟩, ?_⟩
      rw [ho] at h2
      have := h2.append h4
      rw [← List.drop_drop, List.take_append_drop] at this
      exact this
    · cases h
theorem arr_ok {w : World} {Sh : Nat → Prop} {n : Nat} {CS : List Value} {e : TypeId} {sz : Nat} : ∀ (k : Nat), (∀ i, i < k → ∃ a, argOk P n e a ∧ RepL w Sh a.cells ((CS.drop (i * sz)).take sz)) →
    ∃ parts : List AV, parts.length = k ∧ (∀ x ∈ parts, argOk P n e x) ∧ RepL w Sh (parts.flatMap AV.cells) (CS.take (k * sz))
  | 0, _ => ⟨[], rfl, by simp, by simp [RepL]⟩
  | k + 1, h => by
    obtain ⟨parts, h1, h2, h3⟩ := arr_ok k fun i hi => h i (by omega)
    obtain ⟨a, h4, h5⟩ := h k (by omega)
    refine ⟨parts ++ [a], by simp [h1], ?_, ?_⟩
    · intro x hx
      rcases List.mem_append.1 hx with hx | hx
      · exact h2 x hx
      · simp at hx; subst hx; exact h4
    · have := h3.append h5
      have e1 : CS.take (k * sz) ++ (CS.drop (k * sz)).take sz = CS.take ((k + 1) * sz) := by
        rw [Nat.add_mul, Nat.one_mul, List.take_add]
      rw [e1] at this
      simpa using this
theorem cell_spot {w : World} {a : Addr} {v : Value} (h : w.cell? a = some v) : a.spot = none ∧ a.block < w.heap.size := by
  unfold World.cell? at h
  split at h
  · rename_i hb
    split at h
    · cases h
    · rename_i hs
      exact ⟨by simpa using hs, (Array.getElem?_eq_some_iff.1 hb).1⟩
  · cases h
theorem weightsAll_mem {H : Type} {e : TypeId} {N : Nat} : ∀ {l : List (DataW H)}, (∀ z ∈ DataW.weightsAll P e l, z ≤ N) → ∀ d ∈ l, ∀ z ∈ d.weights P e, z ≤ N
  | [], _, d, hd => by cases hd
  | a :: l, h, d, hd => by
    simp only [DataW.weightsAll, List.mem_append] at h
    rcases List.mem_cons.1 hd with rfl | hd
    · exact fun z hz => h z (.inl hz)
    · exact weightsAll_mem (fun z hz => h z (.inr hz)) d hd
theorem weightsEach_get {H : Type} {N : Nat} : ∀ {ts : List TypeId} {l : List (DataW H)}, (∀ z ∈ DataW.weightsEach P ts l, z ≤ N) → ∀ (i : Nat) (t : TypeId) (d : DataW H), ts[i]? = some t → l[i]? = some d → ∀ z ∈ d.weights P t, z ≤ N
  | [], l, _, i, t, d, h, _ => by simp at h
  | _ :: _, [], _, i, t, d, _, h => by simp at h
  | u :: ts, a :: l, h, i, t, d, ht, hd => by
    simp only [DataW.weightsEach, List.mem_append] at h
    cases i with
    | zero => simp at ht hd; subst ht; subst hd; exact fun z hz => h z (.inl hz)
    | succ i => exact weightsEach_get (fun z hz => h z (.inr hz)) i t d (by simpa using ht) (by simpa using hd)
theorem arg_cells {H : Type} {enc : TypeId × Value → H} {w : World} {held : Bool} {ts : List TypeId} (hts : plainTs P ts = true) : ∀ (fuel : Nat) (t : TypeId) (cs : List Value) (x : DataW H × List MemPlace), t ∈ ts →
    DataW.trod enc P w 0 (fun _ => true) held fuel t cs = some x → (∀ z ∈ x.1.weights P t, z ≤ reachBytes) → ∃ a, argOk P fuel t a ∧ RepL w (fun k => k < w.heap.size) a.cells cs := by
  intro fuel
  induction fuel with
  | zero => intro t cs x _ h; simp [DataW.trod] at h
  | succ n ih =>
    intro t cs x ht h hz
    have hpt := List.all_eq_true.1 hts t ht
    cases hu : P.underlying t with
    | none => rw [hu] at hpt; cases hpt
    | some d =>
      rw [hu] at hpt
      cases d with
      | bool =>
        obtain ⟨b, rfl, _⟩ := DataW.trod_bool hu h
        exact ⟨.bool b, by simp [argOk, hu], _, [], rfl, rfl, rfl, rfl⟩
      | int k =>
        obtain ⟨m, rfl, _, hw⟩ := DataW.trod_int hu h
        exact ⟨.int k m, by simp [argOk, hu, hw], _, [], rfl, rfl, rfl, rfl⟩
      | string =>
        obtain ⟨s, rfl, rfl, hl⟩ := DataW.trod_string hu h
        have hz1 := hz s.data.toList.length (by simp [DataW.weights])
        exact ⟨.str s.data.toList, by simp [argOk, hu]; exact ⟨hl, by simpa using hz1⟩, _, [], rfl, rfl, rfl, rfl⟩
      | slice e =>
        simp only [Bool.and_eq_true, decide_eq_true_eq, List.contains_iff_mem] at hpt
        obtain ⟨he, hsz⟩ := hpt
        rcases DataW.trod_slice hu h with ⟨rfl, _⟩ | ⟨a, len, cap, elems, rest, m, hm, rfl, rfl, _, hlc, hcm, hel, hE, hR, _⟩
        · exact ⟨.sl none true (P.cellsOf e) [], by simp [argOk, hu], _, [], rfl, rfl, .inl ⟨rfl, rfl, rfl⟩, rfl⟩
        · obtain rfl : n = m := by omega
          simp only [DataW.weights, hu, List.mem_cons, List.mem_append] at hz
          have hzl : len * P.bytesOf e ≤ reachBytes := Nat.le_trans (Nat.mul_le_mul_right _ (by simp [hel])) (hz _ (.inl rfl))
          have hze : ∀ y ∈ elems ++ rest, ∀ z ∈ y.1.weights P e, z ≤ reachBytes := by
            intro y hy
            rcases List.mem_append.1 hy with hy | hy
            · exact weightsAll_mem (fun z hz' => hz z (.inr (.inl hz'))) y.1 (List.mem_map.2 ⟨y, hy, rfl⟩)
            · exact weightsAll_mem (fun z hz' => hz z (.inr (.inr hz'))) y.1 (List.mem_map.2 ⟨y, hy, rfl⟩)
          obtain ⟨b, off, sp⟩ := a
          have elem : ∀ (i : Nat) (y : DataW H × List MemPlace), y ∈ elems ++ rest → (w.cells? 0 (Addr.add ⟨b, off, sp⟩ (i * P.cellsOf e)) (P.cellsOf e)).bind (DataW.trod enc P w 0 (fun _ => true) held n e) = some y →
              ∃ cs a, (∀ j, j < P.cellsOf e → w.cell? (Addr.add ⟨b, off, sp⟩ (i * P.cellsOf e + j)) = cs[j]?) ∧ cs.length = P.cellsOf e ∧ argOk P n e a ∧ RepL w (fun k => k < w.heap.size) a.cells cs := by
            intro i y hym hy
            obtain ⟨cs, h1, h2⟩ := Option.bind_eq_some_iff.1 hy
            obtain ⟨_, h3, h4⟩ := World.cells?_some h1
            obtain ⟨a, h5, h6⟩ := ih e cs y he h2 (hze y hym)
            exact ⟨cs, a, fun j hj => by rw [← Addr.add_add]; exact h4 j hj, h3, h5, h6⟩
          have first : ∀ (cs : List Value), (∀ j, j < P.cellsOf e → w.cell? (Addr.add ⟨b, off, sp⟩ (0 * P.cellsOf e + j)) = cs[j]?) → cs.length = P.cellsOf e → sp = none ∧ b < w.heap.size := by
            intro cs h1 h2
            have := h1 0 hsz
            rw [List.getElem?_eq_getElem (by omega)] at this
            have := cell_spot this
            simpa [Addr.add] using this
          by_cases hc0 : cap = 0
          · subst hc0
            obtain rfl : len = 0 := by omega
            exact ⟨.sl none false (P.cellsOf e) [], by simp [argOk, hu], _, [], rfl, rfl, .inr ⟨rfl, b, off, 0, [], sp, rfl, by simp, .inl rfl, rfl⟩, rfl⟩
          · have hsp : sp = none ∧ b < w.heap.size := by
              by_cases hl0 : len = 0
              · obtain ⟨hrl, hr⟩ := hR rfl
                have h0 := hr 0 (by omega)
                rw [hl0, Nat.zero_add, List.getElem?_eq_getElem (by omega)] at h0
                obtain ⟨cs, a, h1, h2, _⟩ := elem 0 _ (by simp) h0
                exact first cs h1 h2
              · have h0 := hE 0 (by omega)
                rw [List.getElem?_eq_getElem (by omega)] at h0
                obtain ⟨cs, a, h1, h2, _⟩ := elem 0 _ (by simp) h0
                exact first cs h1 h2
            obtain ⟨rfl, hb⟩ := hsp
            obtain ⟨l, vs, h1, h2, h3, h4⟩ := elems_ok (P := P) (w := w) (n := n) (e := e) (b := b) (off := off) hsz len (fun i hi => by
              have h0 := hE i hi
              rw [List.getElem?_eq_getElem (by omega)] at h0
              obtain ⟨cs, a, h1, h2, h3, h4⟩ := elem i _ (by simp) h0
              exact ⟨cs, a, fun j hj => by have := h1 j hj; rw [Addr.add_plain, ← Nat.add_assoc] at this; exact this, h2, h3, h4⟩)
            refine ⟨.sl none false (P.cellsOf e) l, ?_, _, [], rfl, rfl, .inr ⟨rfl, b, off, cap, vs, none, by rw [h1], by rw [h1]; exact hlc, .inr ⟨rfl, hb, h3⟩, h4⟩, rfl⟩
            simp only [argOk, hu]
            exact ⟨false, l, rfl, by simp, by rw [h1]; omega, h2, by rw [h1]; exact hzl⟩
      | struct fs =>
        simp only [Bool.and_eq_true, List.all_eq_true, List.contains_iff_mem, beq_iff_eq] at hpt
        obtain ⟨hfs, hlay⟩ := hpt
        obtain ⟨xs, m, hm, rfl, hl, hxl, hf⟩ := DataW.trod_struct hu h
        simp only [DataW.weights, hu] at hz
        obtain rfl : n = m := by omega
        obtain ⟨parts, h1, h2⟩ := lays_ok (P := P) (w := w) (Sh := fun k => k < w.heap.size) (n := n) (CS := cs) fs.toList 0 (by rw [hlay, hl]) (fun f hf' => by
          obtain ⟨i, hi⟩ := List.getElem?_of_mem hf'
          have h0 := hf i f (by simpa using hi)
          have hi2 := (List.getElem?_eq_some_iff.1 hi).1
          rw [List.getElem?_eq_getElem (by simp at hi2; omega)] at h0
          exact ih f.type _ _ (hfs f hf') h0 (weightsEach_get hz i f.type _ (by rw [List.getElem?_map, hi]; rfl) (by rw [List.getElem?_map, List.getElem?_eq_getElem (by simp at hi2; omega)]; rfl)))
        refine ⟨.agg (parts.flatMap AV.cells), ?_, h2⟩
        simp only [argOk, hu]
        exact ⟨parts, rfl, h1⟩
      | array k e =>
        simp only [Bool.and_eq_true, decide_eq_true_eq, List.contains_iff_mem] at hpt
        obtain ⟨he, hck⟩ := hpt
        obtain ⟨xs, m, hm, rfl, hl, hxl, hf⟩ := DataW.trod_array hu h
        simp only [DataW.weights, hu] at hz
        obtain rfl : n = m := by omega
        obtain ⟨parts, h1, h2, h3⟩ := arr_ok (P := P) (w := w) (Sh := fun k => k < w.heap.size) (n := n) (CS := cs) (e := e) (sz := P.cellsOf e) k (fun i hi => by
          have h0 := hf i hi
          rw [List.getElem?_eq_getElem (by omega)] at h0
          exact ih e _ _ he h0 (weightsAll_mem hz _ (List.mem_map.2 ⟨_, List.getElem_mem _, rfl⟩)))
        rw [← hck, ← hl, List.take_length] at h3
        refine ⟨.agg (parts.flatMap AV.cells), ?_, h3⟩
        simp only [argOk, hu]
        exact ⟨parts, rfl, h1, h2⟩
      | _ => cases hpt
/-- An argument, as data. -/
theorem arg_data {H : Type} {enc : TypeId × Value → H} {w : World} {held : Bool} {ts : List TypeId} (hts : plainTs P ts = true) {t : TypeId} {v : Value} {d : DataW H} {ps : List MemPlace} {r : Reach} {base : Nat} (ht : t ∈ ts)
    (hv : Value.okWide P w r base t v) (h : DataW.Trod enc P w 0 (fun _ => true) held t v d ps) (hz : ∀ z ∈ d.weights P t, z ≤ reachBytes) : ∃ n a, argOk P n t a ∧ RepF w (fun b => b < w.heap.size) a v := by
  obtain ⟨fuel, h⟩ := h
  obtain ⟨a, h1, h2⟩ := arg_cells hts fuel t _ _ ht h hz
  refine ⟨fuel, a, h1, ?_⟩
  have hpt := List.all_eq_true.1 hts t ht
  cases fuel with
  | zero => exact h1.elim
  | succ n =>
    simp only [argOk] at h1
    have plain : v.cells.toList = [v] → a.cells = [a] → RepF w (fun b => b < w.heap.size) a v := by
      intro e1 e2
      rw [e1, e2] at h2
      obtain ⟨u, r, h3, _, h5, _⟩ := h2
      cases h3
      exact h5
    cases hu : P.underlying t with
    | none => rw [hu] at hpt; cases hpt
    | some d =>
      rw [hu] at hpt h1
      cases d with
      | bool =>
        obtain ⟨b, rfl⟩ := h1
        obtain ⟨b', rfl⟩ := okWide_bool hu hv
        exact plain rfl rfl
      | int k =>
        obtain ⟨b, rfl, _⟩ := h1
        obtain ⟨b', rfl⟩ := okWide_int hu hv
        exact plain rfl rfl
      | string =>
        obtain ⟨b, rfl, _⟩ := h1
        obtain ⟨b', rfl⟩ := okWide_string hu hv
        exact plain rfl rfl
      | slice e =>
        obtain ⟨nb, l, rfl, _⟩ := h1
        obtain ⟨x, y, z, rfl⟩ := okWide_slice hu hv
        exact plain rfl rfl
      | struct fs =>
        obtain ⟨parts, rfl, _⟩ := h1
        obtain ⟨cs, rfl, _⟩ := okWide_struct hu hv
        exact ⟨cs.toList, by simp, h2⟩
      | array k e =>
        obtain ⟨parts, rfl, _⟩ := h1
        simp only [Value.okWide, hu] at hv
        obtain ⟨cs, rfl, _⟩ := hv
        exact ⟨cs.toList, by simp, h2⟩
      | _ => cases hpt
theorem list_of {α : Type} {g : α → AV} : ∀ (l : List AV), (∀ x ∈ l, ∃ y, x = g y) → ∃ ys : List α, l = ys.map g
  | [], _ => ⟨[], rfl⟩
  | x :: l, h => by
    obtain ⟨y, rfl⟩ := h x (by simp)
    obtain ⟨ys, rfl⟩ := list_of l fun z hz => h z (by simp [hz])
    exact ⟨y :: ys, rfl⟩
section
variable {n : Nat} {t e : TypeId} {a : AV}
theorem argOk_sliceS (hu : P.underlying t = some (.slice e)) (h : argOk P n t a) : ∃ m nb l, n = m + 1 ∧ a = .sl none nb (P.cellsOf e) l ∧ (nb = true → l = []) ∧ l.length ≤ maxLen ∧ (∀ x ∈ l, argOk P m e x) ∧ l.length * P.bytesOf e ≤ reachBytes := by
  cases n with
  | zero => exact h.elim
  | succ m =>
    simp only [argOk, hu] at h
    obtain ⟨nb, l, h⟩ := h
    exact ⟨m, nb, l, rfl, h⟩
theorem argOk_slice (hu : P.underlying t = some (.slice e)) (h : argOk P n t a) : ∃ m nb l, n = m + 1 ∧ a = .sl none nb (P.cellsOf e) l ∧ (nb = true → l = []) ∧ l.length ≤ maxLen ∧ ∀ x ∈ l, argOk P m e x := by
  obtain ⟨m, nb, l, h1, h2, h3, h4, h5, _⟩ := argOk_sliceS hu h
  exact ⟨m, nb, l, h1, h2, h3, h4, h5⟩
theorem argOk_struct {fs : Array Field} (hu : P.underlying t = some (.struct fs)) (h : argOk P n t a) : ∃ m parts, n = m + 1 ∧ a = .agg (parts.flatMap AV.cells) ∧ partsOk (argOk P m) fs.toList parts := by
  cases n with
  | zero => exact h.elim
  | succ m =>
    simp only [argOk, hu] at h
    obtain ⟨parts, h⟩ := h
    exact ⟨m, parts, rfl, h⟩
theorem argOk_int {k : IntKind} (hu : P.underlying t = some (.int k)) (h : argOk P n t a) : ∃ z, a = .int k z ∧ (Lit.int k z).wf = true := by
  cases n with
  | zero => exact h.elim
  | succ m => simpa only [argOk, hu] using h
theorem argOk_bool (hu : P.underlying t = some .bool) (h : argOk P n t a) : ∃ b, a = .bool b := by
  cases n with
  | zero => exact h.elim
  | succ m => simpa only [argOk, hu] using h
theorem argOk_u8 (hu : P.underlying t = some (.int .u8)) (h : argOk P n t a) : ∃ c : UInt8, a = u8 c := by
  obtain ⟨z, rfl, hw⟩ := argOk_int hu h
  have := bounds_u8 hw
  refine ⟨UInt8.ofNat z.toNat, ?_⟩
  unfold u8
  congr 1
  rw [UInt8.toNat_ofNat']
  omega
def u64 (c : UInt64) : AV := .int .u64 c.toNat
theorem argOk_bytes (hu : P.underlying t = some (.slice e)) (he : P.underlying e = some (.int .u8)) (hc : P.cellsOf e = 1) (h : argOk P n t a) :
    ∃ nb bs, a = .sl none nb 1 (bs.map u8) ∧ (nb = true → bs = []) ∧ bs.length ≤ maxLen := by
  obtain ⟨m, nb, l, _, rfl, h1, h2, h3⟩ := argOk_slice hu h
  obtain ⟨bs, rfl⟩ := list_of l fun x hx => argOk_u8 he (h3 x hx)
  exact ⟨nb, bs, by rw [hc], fun hn => by simpa using h1 hn, by simpa using h2⟩
end
end Go.VS
namespace Go.VS
set_option linter.unusedVariables false
set_option linter.unusedSimpArgs false
set_option linter.unusedSectionVars false
open Go Go.ChangeShapes Go.WideShapes Go.ChangeAt Go.RowKit
def argsFit (P : Program) : List TypeId → List AV → Prop
  | [], as => as = []
  | t :: ts, as => ∃ a r, as = a :: r ∧ (∃ n, argOk P n t a) ∧ argsFit P ts r
theorem args_data {P : Program} {H : Type} {enc : TypeId × Value → H} {w : World} {held : Bool} {ts : List TypeId} (hts : plainTs P ts = true) {r : Reach} {base : Nat} : ∀ {us : List TypeId} {vs : List Value} {ds : List (DataW H)} {ps : List MemPlace},
    (∀ t ∈ us, t ∈ ts) → (∀ (j : Nat) t v, us[j]? = some t → vs[j]? = some v → Value.okWide P w r base t v) → DataW.TrodAll enc P w 0 (fun _ => true) held us vs ds ps → ∀ {vt : List TypeId} {gs : List (DataW H)}, (∀ z ∈ DataW.weightsEach P (us ++ vt) (ds ++ gs), z ≤ reachBytes) →
    ∃ as, argsFit P us as ∧ (as.length = vs.length ∧ ∀ (i : Nat) (a : AV) (v : Value), as[i]? = some a → vs[i]? = some v → RepF w (fun b => b < w.heap.size) a v) ∧ ds.length = us.length
  | [], vs, ds, ps, _, _, h, _, _, _ => by
    obtain ⟨rfl, rfl, rfl⟩ := trodAll_nil h
    exact ⟨[], rfl, ⟨rfl, fun i a v hi => by simp at hi⟩, rfl⟩
  | t :: us, vs, ds, ps, hu, hv, h, vt, gs, hz => by
    obtain ⟨v, vs', d, ds', p, q, rfl, rfl, rfl, h0, h1⟩ := trodAll_cons h
    simp only [List.cons_append, DataW.weightsEach, List.mem_append] at hz
    obtain ⟨n, a, ha, hr⟩ := arg_data hts (hu t (by simp)) (hv 0 t v rfl rfl) h0 (fun z h => hz z (.inl h))
    obtain ⟨as, k1, ⟨k2, k3⟩, k4⟩ := args_data hts (fun t ht => hu t (by simp [ht])) (fun j t v hj hj' => hv (j + 1) t v (by simpa using hj) (by simpa using hj')) h1 (fun z h => hz z (.inr h))
    refine ⟨a :: as, ⟨a, as, rfl, ⟨n, ha⟩, k1⟩, ⟨by simp [k2], fun i x y hx hy => ?_⟩, by simp [k4]⟩
    cases i with
    | zero => simp at hx hy; subst hx; subst hy; exact hr
    | succ i => exact k3 i x y (by simpa using hx) (by simpa using hy)
end Go.VS
