/- Part of a framework that states what Go functions answer on values as data; it holds for every program of the model. -/
import Derived.Test.YtijcpdgfbboamaaDoorVsOwn
import Derived.Deep.Upon
import Derived.Lib.ConvBytes
namespace Go.VS
set_option linter.unusedVariables false
set_option linter.unusedSimpArgs false
set_option linter.unusedSectionVars false
open Go
variable {P : Program}

/-- A target for a name, in the middle of a region. -/
theorem Conc.mark {X : Ent} {st : St} {C : Ctx} {a : Act} {w : World} (h : Conc X st C a w) {d : Nat} {t0 : Stamp} (hfree : st.made d = false)
    (ht0 : st.cons t0 = true) (ht1 : t0.1 ≠ 1) (htj : ∀ k, st.cons (1, k) = false → st.res k = some t0 → False) :
    Conc X { st with made := upd st.made d true, res := upd st.res d (some t0) } C a w := by
  have hres : ∀ k, k ≠ d → upd st.res d (some t0) k = st.res k := fun k hk => upd_ne _ _ hk
  refine { n := h.n, slots := h.slots, defers := h.defers, boxes := h.boxes, boxSome := h.boxSome, mem := h.mem, cons := h.cons, made := ?_, tg := ?_, tgInj := ?_, tgMade := ?_ }
  · intro k hk
    by_cases e : k = d
    · subst e; simp
    · have := h.made k hk; simp only [upd_ne _ _ e]; exact this
  · intro k x hx
    by_cases e : k = d
    · subst e; simp at hx; subst hx; exact ⟨ht0, ht1⟩
    · simp only [hres k e] at hx; exact h.tg k x hx
  · intro k k' x c c' hx hx'
    by_cases e : k = d <;> by_cases e' : k' = d
    · rw [e, e']
    · subst e; simp at hx; subst hx; simp only [hres k' e'] at hx'; exact (htj k' c' hx').elim
    · subst e'; simp at hx'; subst hx'; simp only [hres k e] at hx; exact (htj k c hx).elim
    · simp only [hres k e] at hx; simp only [hres k' e'] at hx'; exact h.tgInj k k' x c c' hx hx'
  · intro k hk
    by_cases e : k = d
    · subst e; simp
    · simp only [hres k e]; simp only [upd_ne _ _ e] at hk; exact h.tgMade k hk

/-- The elements that are appended. -/
def srcOf (P : Program) (st : St) (tx : TypeId) (sz : Nat) (x : AV) : Option (List AV) :=
  match x with
  | .sl o nb sz' l =>
    match P.underlying tx with
    | some (.slice _) => need (st.alive o = true ∧ (nb = true ∨ sz' = sz)) (some l)
    | _ => none
  | .str s =>
    match P.underlying tx with
    | some .string => need (sz = 1) (some (s.map u8))
    | _ => none
  | .bsl id off len _ =>
    match P.underlying tx with
    | some (.slice _) => (st.bx id).bind fun cs => need (sz = 1 ∧ off + len ≤ cs.length ∧ frozableL ((cs.drop off).take len) = true ∧ stampsL ((cs.drop off).take len) = [] ∧
        (((cs.drop off).take len).all fun c => c.cells.length = 1 && st.one c) = true) (some (frozL ((cs.drop off).take len)))
    | _ => none
  | _ => none

theorem RepRow.of_one {w : World} {Sh : Nat → Prop} : ∀ {l : List AV} {vs : List Value}, RepL w Sh l vs → RepRow w Sh 1 l vs
  | [], _, h => h
  | c :: cs, _, h => by
    obtain ⟨v, r, rfl, h1, h2, h3⟩ := h
    have hv : v.cells = #[v] := by cases v <;> first | rfl | (simp [Value.oneCell'] at h1)
    exact ⟨v, r, by simp [hv], by simp [hv], by simp [hv, h1], h2, RepRow.of_one h3⟩

theorem row_bytes {w : World} {Sh : Nat → Prop} (s : List UInt8) : RepRow w Sh 1 (s.map u8) (byteCells ⟨s.toArray⟩) := by
  apply RepRow.of_one
  induction s with
  | nil => simp [byteCells, RepL]
  | cons c s ih => exact ⟨.int .u8 c.toNat, byteCells ⟨s.toArray⟩, by simp [byteCells], rfl, rfl, ih⟩

theorem srcOf_ok {X : Ent} {st : St} {C : Ctx} {a : Act} {w : World} (hc : Conc X st C a w) {tx : TypeId} {sz : Nat} {x : AV} {l : List AV} (h : srcOf P st tx sz x = some l) {u : Value} (hr : Rep w C x u) :
    ∃ news, Src P sz tx u l.length news w ∧ RepRow w C.Sh sz l news := by
  unfold srcOf at h
  split at h
  · rename_i o nb sz' l'
    split at h
    · rename_i E hT
      obtain ⟨⟨ha, hs⟩, h'⟩ := need_some h
      cases h'
      rcases rep_sl_read hc.cons hr ha with ⟨_, rfl, rfl⟩ | ⟨hn, b, off, cap, vs, sp, rfl, hlc, hsp, h4, h5⟩
      · exact ⟨[], Src.ofNil w hT 0, rfl⟩
      · have hsz : sz' = sz := hs.resolve_left (by simp [hn])
        subst hsz
        exact ⟨vs, Src.ofSlice w hT _ _ _ _ h5.length (fun j v hj => by
          rcases hsp with hsp | rfl
          · rw [hsp] at hj; simp at hj
          · rw [Addr.add_mid]; exact h4 j v hj) h5.one, h5⟩
    · cases h
  · rename_i s
    split at h
    · rename_i hT
      obtain ⟨rfl, h'⟩ := need_some h
      cases h'
      simp only [Rep] at hr; subst hr
      have := Src.ofString w (P := P) hT ⟨s.toArray⟩
      refine ⟨_, by simpa [ByteArray.size] using this, row_bytes s⟩
    · cases h
  · rename_i id off len cap
    split at h
    · rename_i E hT
      obtain ⟨cs, hcs, h'⟩ := Option.bind_eq_some_iff.1 h
      obtain ⟨⟨rfl, hl, hf, hst, hone⟩, h''⟩ := need_some h'
      cases h''
      obtain ⟨b, hb, rfl, _⟩ := hr
      obtain ⟨b', vs, hb', h1, h2⟩ := RepS_of_box (hc.boxes _ _ hcs)
      obtain rfl : b = b' := by rw [hb] at hb'; exact Option.some.inj hb'
      have hcut := (h2.drop off).take len
      have hlen := h2.length
      have hF := frozL_ok (w := w) (C := C) _ _ hf (by rw [hst]; simp) hcut
      have hrow := RepRow.of_one hF
      have e1 : (frozL ((cs.drop off).take len)).length = len := by
        have := hF.length; simp at this; omega
      refine ⟨_, ?_, hrow⟩
      rw [e1]
      refine Src.ofSlice w hT _ _ _ _ (by simp; omega) (fun j v hj => ?_) hrow.one
      rw [Addr.add_mid]
      have := ((h1.drop off).take len) j v hj
      simpa using this
    · cases h
  · cases h
end Go.VS
namespace Go.VS
set_option linter.unusedVariables false
set_option linter.unusedSimpArgs false
set_option linter.unusedSectionVars false
open Go
variable {P : Program}

def _root_.Go.Program.rowOk (P : Program) (E : TypeId) : Bool :=
  match P.info? E with
  | some i =>
    match i.zero with
    | some z => z.cells.size == i.size
    | none => false
  | none => false

theorem rowOk_of {E : TypeId} (h : P.rowOk E = true) : ∃ i z, P.info? E = some i ∧ i.zero = some z ∧ z.cells.size = i.size ∧ i.size = P.cellsOf E ∧ i.bytes = P.bytesOf E := by
  unfold Program.rowOk at h
  split at h
  · rename_i i hi
    split at h
    · rename_i z hz
      exact ⟨i, z, hi, hz, by simpa using h, by simp [Program.cellsOf, hi], by simp [Program.bytesOf, hi]⟩
    · cases h
  · cases h

theorem Conc.newBlockAt {X : Ent} {st : St} {C : Ctx} {a : Act} {w : World} (h : Conc X st C a w) {d : Nat} {t0 : Stamp} (hfree : st.made d = false) (hfrz : st.frz (1, d) = false)
    (ht0 : st.cons t0 = true) (ht1 : t0.1 ≠ 1) (htj : ∀ k, st.cons (1, k) = false → st.res k = some t0 → False) (c : Array Value) (e : TypeId) :
    ∃ C', Conc X { st with made := upd st.made d true, res := upd st.res d (some t0) } C' a (w.alloc (.cells c e)) ∧ C.To w (w.alloc (.cells c e)) C' ∧ C'.own (1, d) = .live w.heap.size 0 ∧ C'.Sh = C.Sh := by
  have m := h.mem
  have h2 := h.alloc (.cells c e)
  have h3 := h2.ownNew (d := d) (b := w.heap.size) (base := 0) (t0 := t0) (by simp) (.inl m.size) hfree hfrz (fun hs => by have := m.shIn _ hs; omega)
    (fun id hb => by have := m.boxIn id _ hb; omega) (fun g bs hg => by have := m.ownIn g _ _ hg; omega) ht0 ht1 htj
  refine ⟨_, h3, ⟨fun b hb => ⟨hb, heap_alloc_ne (m.shIn b hb)⟩, fun _ _ hb => hb, fun g => ?_⟩, by simp [updO], rfl⟩
  by_cases e1 : g = (1, d)
  · subst e1
    left
    cases e : C.own (1, d) with
    | none => rfl
    | dead => have := h.made d (by rw [e]; simp); rw [hfree] at this; cases this
    | live b base => have := h.made d (by rw [e]; simp); rw [hfree] at this; cases this
  · right; right
    exact ⟨by simp [updO, e1], fun b base hb => heap_alloc_ne (m.ownIn g b base hb)⟩

/-- A block that nobody knows is written. -/
theorem Conc.writeFree {X : Ent} {st : St} {C : Ctx} {a : Act} {w : World} (h : Conc X st C a w) {b o : Nat} {vs : List Value} (hm : X.mine b) (hs : ¬ C.Sh b) (hb : ∀ id, C.box id ≠ some b)
    (ho : ∀ g bs, C.own g ≠ .live b bs) : Conc X st C a (w.setCells b o vs) := by
  refine h.to ⟨fun k hk => ⟨hk, heap_setCells_ne _ _ _ _ fun e => hs (e ▸ hk)⟩, fun _ _ hb => hb, fun g => .inr (.inr ⟨rfl, fun k base hk => heap_setCells_ne _ _ _ _ fun e => ho g base (e ▸ hk)⟩)⟩
    (fun _ _ hb => hb) (fun id k hk => heap_setCells_ne _ _ _ _ fun e => hb id (e ▸ hk)) (h.mem.write hm) h.cons h.made

theorem cellsAt_setCells {w : World} {b off : Nat} {c : Array Value} {e : TypeId} {fr : Nat × Nat} {vs news : List Value} (hb : w.heap[b]? = some (.cells c e fr)) (hl : off + vs.length + news.length ≤ c.size)
    (h : cellsAt w b off vs) : cellsAt (w.setCells b (off + vs.length) news) b off (vs ++ news) := by
  intro j v hj
  by_cases hlt : j < vs.length
  · rw [List.getElem?_append_left hlt] at hj
    rw [World.cell?_setCells_out b news _ w _ (fun _ _ => by left; simp; omega)]
    exact h j v hj
  · rw [List.getElem?_append_right (by omega)] at hj
    have hj2 := (List.getElem?_eq_some_iff.1 hj).1
    have := World.cell?_setCells_in b news (off + vs.length) w (fun i hi => by simp only [World.cell?, hb]; simp; omega) (j - vs.length) hj2
    rw [show off + vs.length + (j - vs.length) = off + j by omega] at this
    rw [this, ← hj, List.getElem?_eq_getElem hj2]

def St.eat (st : St) (g : Stamp) (d : Nat) : St :=
  { st with cons := updS st.cons g true, made := upd st.made d true, res := upd st.res d (some (st.tname g)) }

/-- So many zero elements, as append takes them of a make. -/
structure SrcZ (P : Program) (size : Nat) (tx E : TypeId) (x : Value) (n : Nat) (news : List Value) : Prop where
  kind : ∃ k, P.underlying tx = some (.int k)
  val : ∃ k, x = .int k n
  small : n ≤ 9223372036854775807
  zero : ∃ i z, P.info? E = some i ∧ i.zero = some z ∧ (n : Int) * i.bytes ≤ 281474976710656 ∧ news = (Builtin.zeroCells z.cells n).toList ∧ (n * size = 0 → news = [])
  newsLen : news.length = n * size
  one : ∀ u ∈ news, u.oneCell' = true

def SrcG (P : Program) (size : Nat) (tx E : TypeId) (x : Value) (n : Nat) (news : List Value) (w : World) : Prop := Src P size tx x n news w ∨ SrcZ P size tx E x n news

theorem SrcG.newsLen {size : Nat} {tx E : TypeId} {x : Value} {n : Nat} {news : List Value} {w : World} (h : SrcG P size tx E x n news w) : news.length = n * size := h.elim (·.newsLen) (·.newsLen)
theorem SrcG.one {size : Nat} {tx E : TypeId} {x : Value} {n : Nat} {news : List Value} {w : World} (h : SrcG P size tx E x n news w) : ∀ u ∈ news, u.oneCell' = true := h.elim (·.one) (·.one)

theorem run_append_nothing_g (w : World) (t tx ty e : TypeId) (i : TypeInfo) (ht : P.underlying t = some (.slice e)) (hi : P.info? e = some i) (base : Option Addr) (sLen sCap : Nat) (hle : sLen ≤ sCap) (x : Value) (hs : SrcG P i.size tx e x 0 [] w) :
    (Builtin.append_ #[t, tx] ty #[.slice base sLen sCap, x]).run P w = .ok (.slice base sLen sCap) w := by
  rcases hs with hs | hs
  · exact run_append_nothing w t tx ty e i ht hi base sLen sCap hle x hs
  · obtain ⟨k, hk⟩ := hs.kind
    obtain ⟨k', rfl⟩ := hs.val
    have e0 : IntKind.wrap .i64 0 = 0 := by decide
    cases base <;> simp [Builtin.append_, run_underlying ht, run_underlying hk, sizeOf, typeInfo, hi, hle, asInt, asIntOf, e0, storeCells]

theorem run_append_room_g (w : World) (t tx ty e : TypeId) (i : TypeInfo) (ht : P.underlying t = some (.slice e)) (hi : P.info? e = some i) (b off sLen sCap : Nat) (x : Value) (n : Nat) (news : List Value) (hs : SrcG P i.size tx e x n news w)
    (hroom : sLen + n ≤ sCap) (hc : ∀ j, j < news.length → (w.cell? ⟨b, off + sLen * i.size + j, none⟩).isSome = true) (hf : ∀ j, j < news.length → w.frozen? ⟨b, off + sLen * i.size + j, none⟩ = false) :
    (Builtin.append_ #[t, tx] ty #[.slice (some ⟨b, off, none⟩) sLen sCap, x]).run P w = .ok (.slice (some ⟨b, off, none⟩) (sLen + n) sCap) (w.setCells b (off + sLen * i.size) news) := by
  rcases hs with hs | hs
  · exact run_append_room_src w t tx ty e i ht hi b off sLen sCap x n news hs hroom hc hf
  · have hst := run_storeCells_cells (P := P) b (off + sLen * i.size) news 0 w (by simpa using hc) (by simpa using hf) hs.one
    simp only [Nat.add_zero] at hst
    obtain ⟨k, hk⟩ := hs.kind
    obtain ⟨k', rfl⟩ := hs.val
    obtain ⟨i', z, hi', hz, hby, hnews, hnil⟩ := hs.zero
    rw [hi] at hi'; cases hi'
    have e0 : IntKind.wrap .i64 (n : Int) = n := Go.IntWalk.i64_in _ (by have := hs.small; omega)
    have h1 : ¬ ((n : Int) < 0) := by omega
    have h2 : ¬ (281474976710656 < (n : Int) * (i.bytes : Int)) := by omega
    by_cases h0 : n * i.size = 0
    · have hn := hnil h0
      rw [hn] at hst ⊢
      simp [Builtin.append_, run_underlying ht, run_underlying hk, sizeOf, typeInfo, hi, asInt, asIntOf, e0, h1, h2, hroom, h0, Addr.add_lit, hst]
    · simp [Builtin.append_, run_underlying ht, run_underlying hk, sizeOf, typeInfo, zeroValue, hi, hz, asInt, asIntOf, e0, h1, h2, hroom, h0, Addr.add_lit, ← hnews, hst]

theorem run_append_grow_g (w : World) (t tx ty e : TypeId) (i : TypeInfo) (z : Value) (ht : P.underlying t = some (.slice e)) (hi : P.info? e = some i) (hz : i.zero = some z) (base : Option Addr) (sLen sCap : Nat) (olds : List Value)
    (hold : (Builtin.firstCells i.size sLen (.slice base sLen sCap)).run P w.drew = .ok olds.toArray w.drew) (x : Value) (n : Nat) (news : List Value) (hs : SrcG P i.size tx e x n news w)
    (hg : sCap < sLen + n) (h63 : ((sLen + n : Nat) : Int) ≤ 9223372036854775807) (hfit : Builtin.nextslicecap (sLen + n) sCap * i.bytes ≤ 281474976710656) :
    (Builtin.append_ #[t, tx] ty #[.slice base sLen sCap, x]).run P w =
      .ok (.slice (some ⟨w.heap.size, 0, none⟩) (sLen + n) (grownCap w (sLen + n) sCap e))
        (w.drew.alloc (.cells ((olds ++ news).toArray ++ Builtin.zeroCells z.cells (grownCap w (sLen + n) sCap e - (sLen + n))) e)) := by
  rcases hs with hs | hs
  · exact run_append_grow_src w t tx ty e i z ht hi hz base sLen sCap olds hold x n news hs hg h63 hfit
  · obtain ⟨k, hk⟩ := hs.kind
    obtain ⟨k', rfl⟩ := hs.val
    obtain ⟨i', z', hi', hz', hby, hnews, hnil⟩ := hs.zero
    rw [hi] at hi'; cases hi'
    rw [hz] at hz'; cases hz'
    have e0 : IntKind.wrap .i64 (n : Int) = n := Go.IntWalk.i64_in _ (by have := hs.small; omega)
    have h1 : ¬ ((n : Int) < 0) := by omega
    have h2 : ¬ (281474976710656 < (n : Int) * (i.bytes : Int)) := by omega
    have hn : ¬ (sLen + n ≤ sCap) := by omega
    have h63' : ¬ (9223372036854775807 < ((sLen : Int) + (n : Int))) := by omega
    have h48' : ¬ (281474976710656 < Builtin.nextslicecap (sLen + n) sCap * i.bytes) := by omega
    by_cases h0 : n * i.size = 0
    · have hn' := hnil h0
      rw [hn']
      simp [Builtin.append_, run_underlying ht, run_underlying hk, sizeOf, typeInfo, zeroValue, hi, hz, asInt, asIntOf, e0, h1, h2, hn, h63', h48', Question.forced, hold, h0, newRow, grownCap]
    · simp [Builtin.append_, run_underlying ht, run_underlying hk, sizeOf, typeInfo, zeroValue, hi, hz, asInt, asIntOf, e0, h1, h2, hn, h63', h48', Question.forced, hold, h0, newRow, grownCap, hnews]
      congr 2
      apply Array.ext'
      simp [List.append_assoc]

/-- Onto what is nil. -/
theorem app_nil {X : Ent} {st : St} {C : Ctx} {a : Act} {w : World} (h : Conc X st C a w) {d : Nat} {t0 : Stamp} (hfree : st.made d = false) (hfrz : st.frz (1, d) = false)
    (ht0 : st.cons t0 = true) (ht1 : t0.1 ≠ 1) (htj : ∀ k, st.cons (1, k) = false → st.res k = some t0 → False)
    {ts tx ty E : TypeId} (hT : P.underlying ts = some (.slice E)) (hE : P.rowOk E = true) {l' : List AV} {u2 : Value} {news : List Value} (hs : SrcG P (P.cellsOf E) tx E u2 l'.length news w) (hr : RepRow w C.Sh (P.cellsOf E) l' news)
    (hby : l'.length * P.bytesOf E ≤ 140737488355328) (h63 : l'.length ≤ 9223372036854775807) :
    ∃ u w' C', (Builtin.append_ #[ts, tx] ty #[.slice none 0 0, u2]).run P w = .ok u w' ∧ Conc X { st with made := upd st.made d true, res := upd st.res d (some t0) } C' a w' ∧
      Rep w' C' (.sl (some ((1, d), 0)) l'.isEmpty (P.cellsOf E) l') u := by
  obtain ⟨i, z, hi, hz, hzs, hsz, hbz⟩ := rowOk_of hE
  cases l' with
  | nil =>
    simp only [RepRow] at hr
    subst hr
    exact ⟨_, w, C, run_append_nothing_g w ts tx ty E i hT hi none 0 0 (Nat.le_refl _) u2 (by rw [hsz]; exact hs), h.mark hfree ht0 ht1 htj, .inr (.inl ⟨rfl, rfl, rfl⟩)⟩
  | cons e l =>
    have hlen : 0 < (e :: l).length := by simp
    generalize e :: l = l' at *
    have hrun := run_append_grow_g w ts tx ty E i z hT hi hz none 0 0 [] (run_firstCells_none _ _ _ _ _) u2 l'.length news (by rw [hsz]; exact hs) (by omega) (by omega) (by rw [hbz]; exact growslice_fits (by omega) (by simpa using hby))
    have h1 := h.same (w' := w.drew) rfl rfl rfl rfl
    have hcap : l'.length ≤ grownCap w (0 + l'.length) 0 E := by
      simp only [grownCap, Question.cut]; omega
    generalize grownCap w (0 + l'.length) 0 E = cp at hrun hcap
    obtain ⟨zc, hzc⟩ : ∃ zc, zc = Builtin.zeroCells z.cells (cp - (0 + l'.length)) := ⟨_, rfl⟩
    have hzl : zc.toList.length = (cp - l'.length) * P.cellsOf E := by
      rw [hzc, Array.length_toList, size_zeroCells, hzs, hsz, Nat.zero_add]
    have harr : ([] ++ news).toArray ++ zc = (news ++ zc.toList).toArray := by apply Array.ext'; simp
    rw [← hzc, harr] at hrun
    obtain ⟨C', h2, t, ho, _⟩ := h1.newBlockAt hfree hfrz ht0 ht1 htj (news ++ zc.toList).toArray E
    refine ⟨_, _, C', hrun, h2, ?_⟩
    have he : l'.isEmpty = false := by cases l' with
      | nil => simp at hlen
      | cons => rfl
    have hr' : RepRow w.drew C.Sh (P.cellsOf E) l' news := RepRow.keep (w := w) (w' := w.drew) (fun b hb => ⟨hb, rfl⟩) _ _ _ hr
    have := rep_new (w := w.drew) (C := C) (C' := C') (d := d) (sz := P.cellsOf E) (cap := cp) (l := l') (c := news) (r := zc.toList) (e := E) t ho hr' hcap
      (by
        have h1 := hr.length
        rw [hzl, h1, ← Nat.add_mul]
        congr 1
        omega)
    rw [he, Nat.zero_add]
    exact this

/-- Onto what a name owns. -/
theorem app_own {X : Ent} {st : St} {C : Ctx} {a : Act} {w : World} (h : Conc X st C a w) {d : Nat} {t0 : Stamp} (hfree : st.made d = false) (hfrz : st.frz (1, d) = false)
    (ht0 : st.cons t0 = true) (ht1 : t0.1 ≠ 1) (htj : ∀ k, st.cons (1, k) = false → st.res k = some t0 → False)
    {ts tx ty E : TypeId} (hT : P.underlying ts = some (.slice E)) (hE : P.rowOk E = true) {l l' : List AV} {u2 : Value} {news : List Value} (hs : SrcG P (P.cellsOf E) tx E u2 l'.length news w) (hr : RepRow w C.Sh (P.cellsOf E) l' news)
    (hby : (l.length + l'.length) * P.bytesOf E ≤ 140737488355328) (h63 : l.length + l'.length ≤ 9223372036854775807)
    {b off cap : Nat} {vs : List Value} (hlc : l.length ≤ cap) (hc : cellsAt w b off vs) (hr0 : RepRow w C.Sh (P.cellsOf E) l vs) (hop : openBlock w b (off + cap * P.cellsOf E))
    (hm : X.mine b) (hsh : ¬ C.Sh b) (hbox : ∀ id, C.box id ≠ some b) (hown : ∀ g bs, C.own g ≠ .live b bs) :
    ∃ u w' C', (Builtin.append_ #[ts, tx] ty #[.slice (some ⟨b, off, none⟩) l.length cap, u2]).run P w = .ok u w' ∧ Conc X { st with made := upd st.made d true, res := upd st.res d (some t0) } C' a w' ∧
      Rep w' C' (.sl (some ((1, d), 0)) false (P.cellsOf E) (l ++ l')) u := by
  obtain ⟨i, z, hi, hz, hzs, hsz, hbz⟩ := rowOk_of hE
  obtain ⟨c, e, lo, hi', q1, q2, q3, q4⟩ := hop
  have hvl := hr0.length
  have hnl := hr.length
  by_cases hroom : l.length + l'.length ≤ cap
  · have hsum : (l.length + l'.length) * P.cellsOf E ≤ cap * P.cellsOf E := Nat.mul_le_mul_right _ hroom
    rw [Nat.add_mul] at hsum
    have hrun := run_append_room_g w ts tx ty E i hT hi b off l.length cap u2 l'.length news (by rw [hsz]; exact hs) hroom
      (fun j hj => by rw [hsz]; simp only [World.cell?, q1]; simp; omega)
      (fun j hj => by rw [hsz]; have := q3 (off + l.length * P.cellsOf E + j) (by omega); simp only [World.frozen?, q1]; simp; omega)
    rw [hsz] at hrun
    have h1 := h.writeFree (o := off + l.length * P.cellsOf E) (vs := news) hm hsh hbox hown
    have hlt : b < w.heap.size := (Array.getElem?_eq_some_iff.1 q1).1
    have h2 := h1.ownNew (d := d) (b := b) (base := off) (t0 := t0) (by rw [heap_setCells_size]; exact hlt) hm hfree hfrz hsh hbox hown ht0 ht1 htj
    refine ⟨_, _, _, hrun, h2, .inr (.inr ⟨rfl, b, off, off, cap, vs ++ news, by simp [updO], .inl (by simp), by simp, by simpa using hroom, ?_, ?_, ?_⟩)⟩
    · rw [← hvl]
      exact cellsAt_setCells q1 (by omega) hc
    · have k : ∀ x, C.Sh x → C.Sh x ∧ (w.setCells b (off + l.length * P.cellsOf E) news).heap[x]? = w.heap[x]? := fun x hx => ⟨hx, heap_setCells_ne _ _ _ _ fun e => hsh (e ▸ hx)⟩
      exact (RepRow.keep k _ _ _ hr0).append (RepRow.keep k _ _ _ hr)
    · have hl2 : off + l.length * P.cellsOf E + news.length ≤ c.size := by omega
      refine ⟨_, e, lo, hi', heap_setCells_at news _ w c e _ q1 hl2, ?_, ?_, q4⟩
      · simp only [List.size_toArray]
        rw [putAt_length (by rw [Array.length_toList]; exact hl2), Array.length_toList]
        exact q2
      · intro o ho
        simp only [List.size_toArray] at ho
        rw [putAt_length (by rw [Array.length_toList]; exact hl2), Array.length_toList] at ho
        exact q3 o ho
  · have hrun := run_append_grow_g w ts tx ty E i z hT hi hz (some ⟨b, off, none⟩) l.length cap vs
      (run_firstCells_some _ _ _ _ _ _ _ (by rw [hsz]; exact hvl) (fun j v hj => by rw [Addr.add_mid]; exact hc j v hj)) u2 l'.length news (by rw [hsz]; exact hs) (by omega) (by omega)
      (by rw [hbz]; exact growslice_fits (by omega) hby)
    have h1 := h.same (w' := w.drew) rfl rfl rfl rfl
    have hcap : l.length + l'.length ≤ grownCap w (l.length + l'.length) cap E := by
      simp only [grownCap, Question.cut]; omega
    generalize grownCap w (l.length + l'.length) cap E = cp at hrun hcap
    obtain ⟨zc, hzc⟩ : ∃ zc, zc = Builtin.zeroCells z.cells (cp - (l.length + l'.length)) := ⟨_, rfl⟩
    have hzl : zc.toList.length = (cp - (l.length + l'.length)) * P.cellsOf E := by
      rw [hzc, Array.length_toList, size_zeroCells, hzs, hsz]
    have harr : (vs ++ news).toArray ++ zc = ((vs ++ news) ++ zc.toList).toArray := by apply Array.ext'; simp
    rw [← hzc, harr] at hrun
    obtain ⟨C', h2, t, ho, _⟩ := h1.newBlockAt hfree hfrz ht0 ht1 htj ((vs ++ news) ++ zc.toList).toArray E
    refine ⟨_, _, C', hrun, h2, ?_⟩
    have hr' : RepRow w.drew C.Sh (P.cellsOf E) (l ++ l') (vs ++ news) := RepRow.keep (w := w) (w' := w.drew) (fun b hb => ⟨hb, rfl⟩) _ _ _ (hr0.append hr)
    have := rep_new (w := w.drew) (C := C) (C' := C') (d := d) (sz := P.cellsOf E) (cap := cp) (l := l ++ l') (c := vs ++ news) (r := zc.toList) (e := E) t ho hr' (by simpa using hcap)
      (by
        rw [hzl, List.length_append, hvl, hnl, ← Nat.add_mul, ← Nat.add_mul]
        congr 1
        omega)
    rw [List.length_append] at this
    exact this
end Go.VS
namespace Go.VS
set_option linter.unusedVariables false
set_option linter.unusedSimpArgs false
set_option linter.unusedSectionVars false
open Go
variable {P : Program}

/-! ### A slice that is written out -/

/-- The value that cells make. -/
def ofCells (P : Program) (E : TypeId) (cs : List AV) : Option AV :=
  if P.isAggT E = true then some (.agg cs) else
    match cs with
    | [c] => some c
    | _ => none

def fillElems (st : St) (sz : Nat) (l : List AV) : List (Nat × AV) → Option (List AV × List Stamp)
  | [] => some (l, [])
  | (i, v) :: r => need (st.solid v = true ∧ v.cells.length = sz ∧ i < l.length ∧ frozable v = true ∧ ((stampsOf v).all fun g => !st.cons g) = true)
      ((fillElems st sz (l.set i (froz v)) r).map fun p => (p.1, stampsOf v ++ p.2))

/-- The element that a type's zero value is. -/
def zeroElem (P : Program) (E : TypeId) : Option AV :=
  (zeroAV P E).bind fun z => (ofCells P E z).bind fun z0 => need (P.rowOk E = true ∧ z.length = P.cellsOf E ∧ frozable z0 = true ∧ stampsOf z0 = [] ∧ (P.underlying E).isSome = true) (some (froz z0))

def sliceOp (P : Program) (st : St) (o : Oper) : Option St :=
  match o.op, o.dst with
  | .buildSlice T n parts, some d =>
    match P.underlying T with
    | some (.slice E) =>
      (zeroElem P E).bind fun z0 =>
      (fillElems st (P.cellsOf E) (List.replicate n z0) (parts.toList.map fun p => (p.1, st.ev P E p.2))).bind fun r =>
      need (n * P.cellsOf E ≤ 16777216 ∧ (st.freezeL r.2).canNew d = true)
        (some (((st.freezeL r.2).mkNew d).put d (.sl (some ((1, d), 0)) false (P.cellsOf E) r.1)))
    | _ => none
  | .makeSlice T len cap, some d =>
    match P.underlying T with
    | some (.slice E) =>
      (zeroElem P E).bind fun z0 =>
      (natOf (st.ev P 0 len)).bind fun l => (natOf (st.ev P 0 cap)).bind fun c =>
      need (l ≤ c ∧ P.bytesOf E * c ≤ 281474976710656 ∧ c ≤ 9223372036854775807 ∧ st.canNew d = true)
        (some ((st.mkNew d).put d (.sl (some ((1, d), 0)) false (P.cellsOf E) (List.replicate l z0))))
    | _ => none
  | .convert S T x, some d =>
    match P.underlying T with
    | some (.slice E) =>
      match P.underlying E, st.ev P S x with
      | some (.int .u8), .str l => need ((P.underlying S) matches some .string ∧ st.canNew d = true ∧ P.cellsOf E = 1)
          (some ((st.mkNew d).put d (.sl (some ((1, d), 0)) false 1 (l.map u8))))
      | _, _ => none
    | _ => none
  | _, _ => none

theorem RepRow.set {w : World} {Sh : Nat → Prop} {sz : Nat} {l : List AV} {vs : List Value} (h : RepRow w Sh sz l vs) {i : Nat} (hi : i < l.length) {e : AV} {v : Value}
    (hs : v.cells.size = sz) (h1 : ∀ u ∈ v.cells.toList, u.oneCell' = true) (hr : RepF w Sh e v) : RepRow w Sh sz (l.set i e) (putAt vs (i * sz) v.cells.toList) := by
  have e1 : l.set i e = l.take i ++ (e :: l.drop (i + 1)) := by
    rw [List.set_eq_take_append_cons_drop, if_pos hi]
  have e2 : putAt vs (i * sz) v.cells.toList = vs.take (i * sz) ++ (v.cells.toList ++ vs.drop ((i + 1) * sz)) := by
    simp only [putAt, Array.length_toList, hs, List.append_assoc, Nat.add_mul, Nat.one_mul]
  rw [e1, e2]
  exact (h.take i).append ⟨v, _, rfl, hs, h1, hr, h.drop (i + 1)⟩

theorem made_row (z : Array Value) : ∀ (n : Nat), (List.range (n * z.size)).map (fun j => z[j % z.size]!) = (List.replicate n z.toList).flatten
  | 0 => by simp
  | n + 1 => by
    rw [List.replicate_succ, List.flatten_cons, ← made_row z n, Nat.add_mul, Nat.one_mul, Nat.add_comm, List.range_add, List.map_append, List.map_map]
    congr 1
    · apply List.ext_getElem
      · simp
      · intro j h1 h2
        simp at h1
        simp [Nat.mod_eq_of_lt h1, h1]
    · apply List.map_congr_left
      intro j _
      simp

theorem row_replicate {w : World} {Sh : Nat → Prop} {sz : Nat} {e : AV} {v : Value} (hs : v.cells.size = sz) (h1 : ∀ u ∈ v.cells.toList, u.oneCell' = true) (hr : RepF w Sh e v) :
    ∀ (n : Nat), RepRow w Sh sz (List.replicate n e) (List.replicate n v.cells.toList).flatten
  | 0 => by simp [RepRow]
  | n + 1 => ⟨v, _, rfl, hs, h1, hr, row_replicate hs h1 hr n⟩

def cellsVal (P : Program) (E : TypeId) (cs : Array Value) : Value := if P.isAggT E = true then .agg cs else cs.getD 0 undef

theorem ofCells_ok {E : TypeId} {cs : List AV} {v : AV} (h : ofCells P E cs = some v) {w : World} {C : Ctx} {z : Array Value} (hr : RepS w C cs z.toList) :
    (cellsVal P E z).cells = z ∧ Rep w C v (cellsVal P E z) := by
  unfold ofCells at h
  unfold cellsVal
  split at h
  · rename_i ha
    cases h
    rw [if_pos ha]
    exact ⟨rfl, z.toList, by simp, hr⟩
  · rename_i ha
    rw [if_neg ha]
    split at h
    · cases h
      obtain ⟨u, r, h0, h1, h2, h3⟩ := hr
      simp only [RepS] at h3; subst h3
      have hz : z = #[u] := by apply Array.ext'; rw [h0]
      subst hz
      have : u.cells = #[u] := by cases u <;> first | rfl | (simp [Value.oneCell'] at h1)
      exact ⟨by simpa using this, by simpa using h2⟩
    · cases h

theorem zeroElem_ok {E : TypeId} {e : AV} (h : zeroElem P E = some e) : ∃ i z u, P.info? E = some i ∧ i.zero = some z ∧ (∀ w, (zeroValue E).run P w = .ok z w) ∧ i.size = P.cellsOf E ∧ i.bytes = P.bytesOf E ∧
    z.cells.size = P.cellsOf E ∧ u.cells = z.cells ∧ (∀ v ∈ u.cells.toList, v.oneCell' = true) ∧ ∀ w (C : Ctx), RepF w C.Sh e u := by
  unfold zeroElem at h
  obtain ⟨cs, hz, h⟩ := Option.bind_eq_some_iff.1 h
  obtain ⟨z0, hz0, h⟩ := Option.bind_eq_some_iff.1 h
  obtain ⟨⟨hE, hl, hf, hst, hu⟩, h⟩ := need_some h
  cases h
  obtain ⟨i, z, hi, hzz, hzs, hsz, hbz⟩ := rowOk_of hE
  obtain ⟨z', hz1, hz2, _⟩ := zeroAV_ok hz
  have hzz' : z' = z := by
    have := hz1 default
    simp [zeroValue, typeInfo, hi, hzz] at this
    exact this.symm
  subst hzz'
  let C0 : Ctx := ⟨fun _ => False, fun _ => .none, fun _ => none⟩
  have hone : ∀ v ∈ z'.cells.toList, v.oneCell' = true := fun v hv => (hz2 default C0).one v hv
  have hcell := (ofCells_ok hz0 (hz2 default C0)).1
  refine ⟨i, z', cellsVal P E z'.cells, hi, hzz, hz1, hsz, hbz, by rw [hzs, hsz], hcell, by rw [hcell]; exact hone, fun w C => ?_⟩
  exact froz_ok z0 _ hf (by rw [hst]; simp) (ofCells_ok hz0 (hz2 w C)).2

/-- What is appended: elements, or so many zero ones. -/
def srcAll (P : Program) (st : St) (tx E : TypeId) (x : AV) : Option (List AV) :=
  match x with
  | .int _ n =>
    match P.underlying tx with
    | some (.int _) => (zeroElem P E).bind fun z0 => need (0 ≤ n ∧ n ≤ 9223372036854775807 ∧ n * P.bytesOf E ≤ 281474976710656) (some (List.replicate n.toNat z0))
    | _ => none
  | x => srcOf P st tx (P.cellsOf E) x

theorem srcAll_ok {X : Ent} {st : St} {C : Ctx} {a : Act} {w : World} (hc : Conc X st C a w) {tx E : TypeId} {x : AV} {l : List AV} (h : srcAll P st tx E x = some l) {u : Value} (hr : Rep w C x u) :
    ∃ news, SrcG P (P.cellsOf E) tx E u l.length news w ∧ RepRow w C.Sh (P.cellsOf E) l news := by
  have plain : ∀ {x : AV}, srcOf P st tx (P.cellsOf E) x = some l → Rep w C x u → ∃ news, SrcG P (P.cellsOf E) tx E u l.length news w ∧ RepRow w C.Sh (P.cellsOf E) l news := by
    intro x h hr
    obtain ⟨news, h1, h2⟩ := srcOf_ok hc h hr
    exact ⟨news, .inl h1, h2⟩
  unfold srcAll at h
  split at h
  · rename_i k n
    split at h
    · rename_i k' hk
      obtain ⟨z0, hz0, h⟩ := Option.bind_eq_some_iff.1 h
      obtain ⟨⟨h1, h2, h3⟩, h⟩ := need_some h
      cases h
      simp only [Rep] at hr
      subst hr
      obtain ⟨i, z, u0, hi, hz, hzr, hsz, hbz, hzs, huc, hone, hF⟩ := zeroElem_ok hz0
      obtain ⟨m, rfl⟩ := Int.eq_ofNat_of_zero_le h1
      have hrow := row_replicate (w := w) (Sh := C.Sh) (sz := P.cellsOf E) (e := z0) (v := u0) (by rw [huc]; exact hzs) hone (hF w C) m
      have hcells : (Builtin.zeroCells z.cells m).toList = (List.replicate m u0.cells.toList).flatten := by
        rw [huc, ← made_row z.cells m]
        simp [Builtin.zeroCells]
      have hlen : ((List.replicate m u0.cells.toList).flatten).length = m * P.cellsOf E := by simp [huc, hzs]
      refine ⟨(List.replicate m u0.cells.toList).flatten, .inr ?_, by simpa using hrow⟩
      refine ⟨⟨k', hk⟩, ⟨k, by simp⟩, by simp; omega, ⟨i, z, hi, hz, by simp; rw [hbz]; exact h3, by simpa using hcells.symm, fun h0 => ?_⟩, by simpa using hlen, fun v hv => hrow.one v hv⟩
      apply List.eq_nil_of_length_eq_zero
      rw [hlen]
      simpa using h0
    · cases h
  · exact plain h hr

def appOp (P : Program) (st : St) (o : Oper) : Option St :=
  match o.op, o.dst with
  | .call c, some d =>
    match c.callee, c.args.toList, c.argTypes.toList with
    | .builtin .append, [s, x], [ts, tx] =>
      match P.underlying ts with
      | some (.slice E) =>
        match st.ev P ts s with
        | .sl q nb sz' l =>
          (srcAll P st tx E (st.ev P tx x)).bind fun l' =>
          need (P.rowOk E = true ∧ (nb = true ∨ sz' = P.cellsOf E) ∧ (l.length + l'.length) * P.bytesOf E ≤ 140737488355328 ∧ l.length + l'.length ≤ 9223372036854775807 ∧
              st.made d = false ∧ st.frz (1, d) = false ∧ st.cons (1, d) = false)
            (match q with
             | none => need (nb = true ∧ st.cons (0, d) = false) (some ((st.mkNew d).put d (.sl (some ((1, d), 0)) (nb && l'.isEmpty) (P.cellsOf E) (l ++ l'))))
             | some (g, _) => need (st.cons g = false ∧ st.frz g = false ∧ (g.1 = 1 → st.made g.2 = true)) (some ((st.eat g d).put d (.sl (some ((1, d), 0)) (nb && l'.isEmpty) (P.cellsOf E) (l ++ l')))))
        | _ => none
      | _ => none
    | _, _, _ => none
  | _, _ => none

theorem step_app {X : Ent} {st st' : St} {o : Oper} (h : appOp P st o = some st') (hd : St.fits X.n o.dst = true) : OpStep P X st o st' :=
  OpStep.value fun C a w hc => by
    unfold appOp at h
    split at h
    · rename_i c d ho hdst
      split at h
      · rename_i s x ts tx hcal hargs htys
        split at h
        · rename_i E hT
          split at h
          · rename_i q nb sz' l hs
            obtain ⟨l', hl', h1⟩ := Option.bind_eq_some_iff.1 h
            obtain ⟨⟨hE, hsz, hby, h63, c1, c2, c3⟩, h2⟩ := need_some h1
            have hn : d < X.n := by rw [hdst] at hd; simpa [St.fits] using hd
            have hsr := hc.ev P ts s
            rw [hs] at hsr
            have hxr := hc.ev P tx x
            have hargs' : c.args = #[s, x] := by apply Array.ext'; simpa using hargs
            have htys' : c.argTypes = #[ts, tx] := by apply Array.ext'; simpa using htys
            have hexec : ∀ {u w'}, (Builtin.append_ #[ts, tx] o.type #[a.eval s, a.eval x]).run P w = .ok u w' → (execOp a.eval o).run P w = .ok (.value u) w' := by
              intro u w' hu
              simp [execOp, ho, resolve, hcal, invoke, builtin, hargs', htys', hu]
            cases q with
            | none =>
              obtain ⟨⟨rfl, c4⟩, h3⟩ := need_some h2
              cases h3
              rcases hsr with ⟨_, rfl, hu⟩ | ⟨hf, _⟩
              · have hk := hc.kill (0, d) (by simp)
                have t0 : C.To w w { C with own := updO C.own (0, d) .dead } := ⟨fun _ hb => ⟨hb, rfl⟩, fun _ _ hb => hb, fun g => by
                  by_cases e : g = (0, d)
                  · subst e; exact .inr (.inl (by simp [updO]))
                  · exact .inr (.inr ⟨by simp [updO, e], fun _ _ _ => rfl⟩)⟩
                obtain ⟨news, hsrc, hrow⟩ := srcAll_ok hc hl' hxr
                obtain ⟨u, w', C', hu1, hu2, hu3⟩ := app_nil hk (d := d) (t0 := (0, d)) c1 c2 (by simp [updS]) (by simp)
                  (fun k hk' hr => by
                    simp only [updS] at hk'
                    split at hk'
                    · cases hk'
                    · have := (hc.tg k _ hr).1; rw [c4] at this; cases this) hT hE hsrc hrow (by simpa using hby) (by simpa using h63)
                refine ⟨u, w', C', hexec (by rw [hu]; exact hu1), ?_⟩
                rw [hdst]
                exact hu2.put hn (by simpa using hu3)
              · cases hf
            | some p =>
              obtain ⟨g, eo⟩ := p
              obtain ⟨⟨c4, c5, c6⟩, h3⟩ := need_some h2
              cases h3
              have hgd : C.own g ≠ .dead := fun e => by have := (hc.cons g).2 e; rw [c4] at this; cases this
              have hk := hc.kill g c6
              -- the target
              have htn : (updS st.cons g true) (st.tname g) = true ∧ (st.tname g).1 ≠ 1 := by
                unfold St.tname
                split
                · rename_i e1
                  obtain ⟨x, hx⟩ := Option.isSome_iff_exists.1 (hc.tgMade g.2 (c6 e1))
                  have := hc.tg g.2 x hx
                  rw [hx]
                  simp only [Option.getD_some, updS]
                  exact ⟨by split <;> simp [this.1], this.2⟩
                · rename_i e1
                  exact ⟨by simp [updS], e1⟩
              have htj : ∀ k, updS st.cons g true (1, k) = false → st.res k = some (st.tname g) → False := by
                intro k hk' hr
                have hne : ((1, k) : Stamp) ≠ g := fun e => by simp [updS, e] at hk'
                have hk2 : st.cons (1, k) = false := by simpa [updS, hne] using hk'
                unfold St.tname at hr
                split at hr
                · rename_i e1
                  obtain ⟨x, hx⟩ := Option.isSome_iff_exists.1 (hc.tgMade g.2 (c6 e1))
                  rw [hx] at hr
                  simp only [Option.getD_some] at hr
                  have hg1 : g = (1, g.2) := by obtain ⟨g1, g2⟩ := g; simp at e1; simp [e1]
                  have := hc.tgInj k g.2 x hk2 (by rw [← hg1]; exact c4) hr hx
                  exact hne (by rw [this]; exact hg1.symm)
                · have := (hc.tg k _ hr).1; rw [c4] at this; cases this
              obtain ⟨news, hsrc, hrow⟩ := srcAll_ok hc hl' hxr
              rcases hsr with hdd | ⟨hnb, rfl, hu⟩ | ⟨hnb, b, base, off, cap, vs, hg, hoff, hu, hlc, hcc, hrr, hop⟩
              · exact absurd hdd hgd
              · subst hnb
                obtain ⟨u, w', C', hu1, hu2, hu3⟩ := app_nil hk (d := d) (t0 := st.tname g) c1 c2 htn.1 htn.2 htj hT hE hsrc hrow (by simpa using hby) (by simpa using h63)
                refine ⟨u, w', C', hexec (by rw [hu]; exact hu1), ?_⟩
                rw [hdst]
                exact hu2.put hn (by simpa using hu3)
              · subst hnb
                have hsz2 : sz' = P.cellsOf E := hsz.resolve_left (by simp)
                subst hsz2
                have m := hc.mem
                obtain ⟨u, w', C', hu1, hu2, hu3⟩ := app_own hk (d := d) (t0 := st.tname g) c1 c2 htn.1 htn.2 htj hT hE hsrc hrow hby h63 hlc hcc hrr hop
                  (m.ownMine g b base hg c5) (m.ownSh g b base hg c5) (fun id hb => m.ownBox g b base id hg c5 hb)
                  (fun g' bs hg' => by
                    simp only [updO] at hg'
                    split at hg'
                    · cases hg'
                    · rename_i hne
                      exact hne (m.ownOne g g' b base bs hg hg' c5).symm)
                refine ⟨u, w', C', hexec (by rw [hu]; exact hu1), ?_⟩
                rw [hdst]
                exact hu2.put hn (by simpa using hu3)
          · cases h
        · cases h
      · cases h
    · cases h

theorem fillElems_ok {X : Ent} {st : St} {C C1 : Ctx} {a : Act} {w : World} (hc : Conc X st C a w) (t : C.To w w C1) (hown : C1.own = C.own) (place : Nat → Option (Nat × Nat)) {sz : Nat} (hp : ∀ i, place i = some (i * sz, sz)) :
    ∀ (ps : List (Nat × AV)) (us : List (Nat × Value)) (l out : List AV) (gs : List Stamp) (vs : List Value), RepP w C ps us → RepRow w C1.Sh sz l vs → fillElems st sz l ps = some (out, gs) →
      (∀ g ∈ gs, ∀ b base, C.own g = .live b base → C1.Sh b) →
      ∃ r, Instr.fill place vs.toArray us = some r ∧ RepRow w C1.Sh sz out r.toList
  | _, _, l, out, gs, vs, .nil, hr, h, _ => by cases h; exact ⟨vs.toArray, rfl, hr⟩
  | (i, v) :: r, (_, u) :: s, l, out, gs, vs, .cons hv tt, hr, h, hs => by
    simp only [fillElems] at h
    obtain ⟨⟨h1, h2, h3, h4, h5⟩, h'⟩ := need_some h
    obtain ⟨⟨out', gs'⟩, h6, h7⟩ := Option.map_eq_some_iff.1 h'
    cases h7
    have hcl := rep_solid hc.cons h1 hv
    have hlen := hcl.length
    have hvl := hr.length
    rw [Array.length_toList] at hlen
    have hsz : u.cells.size = sz := by omega
    have hF : RepF w C1.Sh (froz v) u := froz_ok v u h4 (fun g hg => ⟨fun e => by
      have hg5 := List.all_eq_true.1 h5 g hg
      rw [hown] at e
      have := (hc.cons g).2 e
      simp [this] at hg5, fun b base hb => hs g (by simp [hg]) b base (by rw [← hown]; exact hb)⟩) (Rep.to t v u hv)
    have hset := hr.set h3 hsz (fun x hx => hcl.one x hx) hF
    have hmul : i * sz + sz ≤ l.length * sz := by
      have : (i + 1) * sz ≤ l.length * sz := Nat.mul_le_mul_right _ h3
      rw [Nat.add_mul, Nat.one_mul] at this; exact this
    obtain ⟨q, hq1, hq2⟩ := fillElems_ok hc t hown place hp r s _ out' gs' _ tt hset h6 (fun g hg => hs g (by simp [hg]))
    refine ⟨q, ?_, hq2⟩
    unfold Instr.fill
    rw [hp i]
    have hs1 : ¬ (u.cells.size ≠ sz) := by omega
    have hs2 : ¬ (i * sz + u.cells.size > vs.toArray.size) := by simp; omega
    simp only [hs1, hs2, decide_false, Bool.or_self, if_false, Bool.false_eq_true]
    rw [← hq1]
    congr 1
    apply Array.ext'
    have hf := fold_put u.cells.toList 0 (i * sz) vs.toArray (by simp; omega)
    have e : (u.cells.zipIdx.foldl (fun (cs : Array Value) (x : Value × Nat) => cs.setIfInBounds (i * sz + x.2) x.1) vs.toArray).toList = putAt vs (i * sz) u.cells.toList := by
      rw [← Array.foldl_toList, Array.toList_zipIdx]
      simpa using hf
    simpa using e

/-- A block that is new, whatever lies in it, gets a name. -/
theorem Conc.newBlockG {X : Ent} {st : St} {C : Ctx} {a : Act} {w w' : World} (h : Conc X st C a w) {d : Nat} (hc : st.canNew d = true) (hs : w.heap.size < w'.heap.size) (hk : ∀ k, k < w.heap.size → w'.heap[k]? = w.heap[k]?)
    (ho : w'.os = w.os) (ht : w'.tape = w.tape) (hu : w'.output = w.output) :
    ∃ C', Conc X (st.mkNew d) C' a w' ∧ C.To w w' C' ∧ C'.own (1, d) = .live w.heap.size 0 ∧ C'.Sh = C.Sh := by
  simp only [St.canNew, Bool.and_eq_true, Bool.not_eq_true'] at hc
  obtain ⟨⟨⟨c1, c2⟩, c3⟩, c4⟩ := hc
  have h1 := h.kill (0, d) (by simp)
  have h2 := h1.grow (Nat.le_of_lt hs) hk ho ht hu
  have m := h.mem
  have notgt : ∀ k, st.cons (1, k) = false → st.res k = some (0, d) → False := by
    intro k _ hk
    have := (h.tg k _ hk).1
    rw [c3] at this; cases this
  have h3 := h2.ownNew (d := d) (b := w.heap.size) (base := 0) (t0 := (0, d)) hs (.inl m.size) c1 c2 (fun hs => by have := m.shIn _ hs; omega)
    (fun id hb => by have := m.boxIn id _ hb; omega)
    (fun g bs hg => by
      simp only [updO] at hg
      split at hg
      · cases hg
      · have := m.ownIn g _ _ hg; omega)
    (by simp [updS]) (by simp)
    (fun k hk hr => by
      simp only [updS] at hk
      split at hk
      · cases hk
      · exact notgt k hk hr)
  refine ⟨_, h3, ⟨fun b hb => ⟨hb, hk b (m.shIn b hb)⟩, fun _ _ hb => hb, fun g => ?_⟩, by simp [updO], rfl⟩
  by_cases e1 : g = (1, d)
  · subst e1
    left
    cases e : C.own (1, d) with
    | none => rfl
    | dead => have := h.made d (by rw [e]; simp); rw [c1] at this; cases this
    | live b base => have := h.made d (by rw [e]; simp); rw [c1] at this; cases this
  · by_cases e2 : g = (0, d)
    · subst e2; right; left; simp [updO]
    · right; right
      exact ⟨by simp [updO, e1, e2], fun b base hb => hk b (m.ownIn g b base hb)⟩

theorem step_slice {X : Ent} {st st' : St} {o : Oper} (h : sliceOp P st o = some st') (hd : St.fits X.n o.dst = true) : OpStep P X st o st' :=
  OpStep.value fun C a w hc => by
    unfold sliceOp at h
    split at h
    · rename_i T n parts d ho hdst
      have hn : d < X.n := by rw [hdst] at hd; simpa [St.fits] using hd
      split at h
      · rename_i E hT
        obtain ⟨z0, hz0, h⟩ := Option.bind_eq_some_iff.1 h
        obtain ⟨⟨out, gs⟩, hfill, h⟩ := Option.bind_eq_some_iff.1 h
        obtain ⟨⟨hbig, hnew⟩, h⟩ := need_some h
        cases h
        obtain ⟨i, z, u0, hi, hz, hzr, hsz, hbz, hzs, huc, hone, hF⟩ := zeroElem_ok hz0
        have hgs : ∀ (ps : List (Nat × AV)) (l out : List AV) (gs : List Stamp), fillElems st (P.cellsOf E) l ps = some (out, gs) → ∀ g ∈ gs, st.cons g = false := by
          intro ps
          induction ps with
          | nil => intro l out gs h g hg; cases h; simp at hg
          | cons p ps ih =>
            intro l out gs h g hg
            obtain ⟨i, v⟩ := p
            simp only [fillElems] at h
            obtain ⟨⟨_, _, _, _, h5⟩, h'⟩ := need_some h
            obtain ⟨⟨out', gs'⟩, h6, h7⟩ := Option.map_eq_some_iff.1 h'
            cases h7
            rcases List.mem_append.1 hg with hg | hg
            · simpa using List.all_eq_true.1 h5 g hg
            · exact ih _ _ _ h6 g hg
        obtain ⟨C1, hc1, t1, o1, b1, m1, s1⟩ := hc.freezeL gs (hgs _ _ _ _ hfill)
        have hrow0 : RepRow w C1.Sh (P.cellsOf E) (List.replicate n z0) (List.replicate n u0.cells.toList).flatten := row_replicate (by rw [huc]; exact hzs) hone (hF w C1) n
        obtain ⟨r, hr1, hr2⟩ := fillElems_ok hc t1 o1 (fun i => some (i * P.cellsOf E, P.cellsOf E)) (fun i => rfl) _ (parts.toList.map fun p => (p.1, a.eval p.2)) _ _ _ _ (rep_p hc (fun _ => E) parts.toList) hrow0 hfill s1
        obtain ⟨C2, hc2, t2, ho2, hsh2⟩ := hc1.newBlock hnew r E
        have hr2l := hr2.length
        have hol : out.length = n := by
          have : ∀ (ps : List (Nat × AV)) (l out : List AV) (gs : List Stamp), fillElems st (P.cellsOf E) l ps = some (out, gs) → out.length = l.length := by
            intro ps
            induction ps with
            | nil => intro l out gs h; cases h; rfl
            | cons p ps ih =>
              intro l out gs h
              obtain ⟨i, v⟩ := p
              simp only [fillElems] at h
              obtain ⟨_, h'⟩ := need_some h
              obtain ⟨⟨out', gs'⟩, h6, h7⟩ := Option.map_eq_some_iff.1 h'
              cases h7
              simpa using ih _ _ _ h6
          simpa using this _ _ _ _ hfill
        refine ⟨.slice (some ⟨w.heap.size, 0, none⟩) n n, w.alloc (.cells r E), C2, ?_, ?_⟩
        · have hI : (P.info? E).isSome = true := by simp [hi]
          have hbig' : ¬ (16777216 < n * P.cellsOf E) := by omega
          have hcells : ((Array.range (n * P.cellsOf E)).map (fun j => z.cells[j % z.cells.size]!)) = ((List.replicate n u0.cells.toList).flatten).toArray := by
            apply Array.ext'
            rw [huc, ← made_row z.cells n, hzs]
            simp
          by_cases hz0' : n * P.cellsOf E = 0
          · have he : ((List.replicate n u0.cells.toList).flatten).toArray = #[] := by rw [← hcells, hz0']; simp
            rw [he] at hr1
            have e0 : Array.map (fun _ : Nat => (default : Value)) (Array.range 0) = #[] := by simp
            simp [execOp, ho, Instr.buildSlice, run_underlying hT, run_sizeOf hI, hz0', newRow]
            rw [e0, hr1]
            simp
          · rw [← hcells] at hr1
            simp [execOp, ho, Instr.buildSlice, run_underlying hT, run_sizeOf hI, hz0', hbig', hzr, hr1, newRow]
        · rw [hdst]
          refine hc2.put hn ?_
          have := rep_new (w := w) (C := C1) (C' := C2) (d := d) (sz := P.cellsOf E) (cap := n) (l := out) (c := r.toList) (r := []) (e := E) (by simpa using t2) (by simpa using ho2) hr2 (by omega) (by simp; rw [hol] at hr2l; simpa using hr2l)
          rw [hol] at this
          simpa using this
      · cases h
    · rename_i T len cap d ho hdst
      have hn : d < X.n := by rw [hdst] at hd; simpa [St.fits] using hd
      split at h
      · rename_i E hT
        obtain ⟨z0, hz0, h⟩ := Option.bind_eq_some_iff.1 h
        obtain ⟨l, hl, h⟩ := Option.bind_eq_some_iff.1 h
        obtain ⟨c, hcp, h⟩ := Option.bind_eq_some_iff.1 h
        obtain ⟨⟨hlc, hby, h63, hnew⟩, h⟩ := need_some h
        cases h
        obtain ⟨i, z, u0, hi, hz, hzr, hsz, hbz, hzs, huc, hone, hF⟩ := zeroElem_ok hz0
        obtain ⟨k1, n1, hv1, hp1, e1⟩ := natOf_rep hl (hc.ev P 0 len)
        obtain ⟨k2, n2, hv2, hp2, e2⟩ := natOf_rep hcp (hc.ev P 0 cap)
        have hrun := run_make w T E i z hT hi hz k1 k2 n1 n2 hp1 (by omega) (by rw [hbz, ← Int.toNat_of_nonneg hp2, e2]; have := Int.ofNat_le.2 hby; rw [Int.natCast_mul] at this; exact this) (by omega)
        rw [e1, e2] at hrun
        have hcells : madeCells z.cells (c * i.size) = ((List.replicate l u0.cells.toList).flatten ++ (List.replicate (c - l) u0.cells.toList).flatten).toArray := by
          apply Array.ext'
          rw [← List.flatten_append, List.replicate_append_replicate, show l + (c - l) = c by omega, huc, ← made_row z.cells c, hzs, hsz]
          simp [madeCells]
          intro j _
          rw [hzs]
        rw [hcells] at hrun
        obtain ⟨C2, hc2, t2, ho2, hsh2⟩ := hc.newBlock hnew _ E
        refine ⟨_, _, C2, by simp only [execOp, ho, hv1, hv2, Sem.run_bind, hrun]; rfl, ?_⟩
        rw [hdst]
        refine hc2.put hn ?_
        have hrow := row_replicate (w := w) (Sh := C.Sh) (sz := P.cellsOf E) (e := z0) (v := u0) (by rw [huc]; exact hzs) hone (hF w C) l
        have hlen : ∀ k, ((List.replicate k u0.cells.toList).flatten).length = k * P.cellsOf E := by
          intro k; simp [huc, hzs]
        have := rep_new (cap := c) t2 ho2 hrow (by simpa using hlc) (by rw [hlen, hlen, ← Nat.add_mul]; congr 1; omega)
        simpa using this
      · cases h
    · rename_i S T x d ho hdst
      have hn : d < X.n := by rw [hdst] at hd; simpa [St.fits] using hd
      split at h
      · rename_i E hT
        split at h
        · rename_i l hE hx
          obtain ⟨⟨hS, hnew, hc1⟩, h⟩ := need_some h
          cases h
          have hxr := hc.ev P S x
          rw [hx] at hxr
          simp only [Rep] at hxr
          split at hS
          · rename_i hS'
            have hsz : (⟨l.toArray⟩ : ByteArray).size = l.length := by simp [ByteArray.size]
            have hcap : l.length ≤ grownCap w l.length 0 E := by simp only [grownCap, Question.cut]; omega
            have hrun := Lib.run_convert_string_bytes (P := P) w S T E ⟨l.toArray⟩ hS' hT hE
            obtain ⟨C2, hc2, t2, ho2, hsh2⟩ := hc.newBlockG (w' := Lib.bytesWorld w E ⟨l.toArray⟩) hnew (by rw [Lib.bytesWorld_size]; omega) (fun k hk => Lib.bytesWorld_at_old w E _ k hk)
              rfl rfl rfl
            refine ⟨.slice (some ⟨w.heap.size, 0, none⟩) l.length (grownCap w l.length 0 E), Lib.bytesWorld w E ⟨l.toArray⟩, C2, ?_, ?_⟩
            · rw [hsz] at hrun
              simp only [execOp, ho, hxr, Sem.run_bind, hrun]
              rfl
            · rw [hdst]
              refine hc2.put hn (.inr (.inr ⟨rfl, w.heap.size, 0, 0, grownCap w l.length 0 E, byteCells ⟨l.toArray⟩, ho2, .inl (by simp), by simp, by simpa using hcap, ?_, row_bytes l, ?_⟩))
              · intro j v hj
                have hj' : j < l.length := by have := (List.getElem?_eq_some_iff.1 hj).1; rw [byteCells_length, hsz] at this; exact this
                rw [Nat.zero_add, Lib.bytesWorld_cell w E ⟨l.toArray⟩ j (by rw [hsz]; exact hj'), ← hj]
                simp [byteCells, List.getD, hj']
              · refine ⟨_, E, _, _, Lib.bytesWorld_at_new w E ⟨l.toArray⟩, ?_, fun o ho => by omega, by omega⟩
                simp [Lib.bytesCells, hsz]
                omega
          · cases hS
        · cases h
      · cases h
    · cases h
end Go.VS
