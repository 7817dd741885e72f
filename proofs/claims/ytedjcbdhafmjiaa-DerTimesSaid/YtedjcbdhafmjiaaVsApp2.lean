/- Part of a framework that states what Go functions answer on values as data; it holds for every program of the model. -/
import Derived.Test.YtedjcbdhafmjiaaVsApp
namespace Go.VS
set_option linter.unusedVariables false
set_option linter.unusedSimpArgs false
set_option linter.unusedSectionVars false
open Go
variable {P : Program}

def _root_.Go.Program.rowOk (P : Program) (E : TypeId) : Bool :=
  match P.info? E with
  | some i =>
    match i.zero with
    | some z => z.cells.size == i.size
    | none => false
  | none => false

theorem rowOk_of {E : TypeId} (h : P.rowOk E = true) : ∃ i z, P.info? E = some i ∧ i.zero = some z ∧ z.cells.size = i.size ∧ i.size = P.cellsOf E ∧ i.bytes = P.bytesOf E := by
  unfold Program.rowOk at h
  split at h
  · rename_i i hi
    split at h
    · rename_i z hz
      exact ⟨i, z, hi, hz, by simpa using h, by simp [Program.cellsOf, hi], by simp [Program.bytesOf, hi]⟩
    · cases h
  · cases h

theorem Conc.newBlockAt {X : Ent} {st : St} {C : Ctx} {a : Act} {w : World} (h : Conc X st C a w) {d : Nat} {t0 : Stamp} (hfree : st.made d = false) (hfrz : st.frz (1, d) = false)
    (ht0 : st.cons t0 = true) (ht1 : t0.1 ≠ 1) (htj : ∀ k, st.cons (1, k) = false → st.res k = some t0 → False) (c : Array Value) (e : TypeId) :
    ∃ C', Conc X { st with made := upd st.made d true, res := upd st.res d (some t0) } C' a (w.alloc (.cells c e)) ∧ C.To w (w.alloc (.cells c e)) C' ∧ C'.own (1, d) = .live w.heap.size 0 ∧ C'.Sh = C.Sh := by
  have m := h.mem
  have h2 := h.alloc (.cells c e)
  have h3 := h2.ownNew (d := d) (b := w.heap.size) (base := 0) (t0 := t0) (by simp) (.inl m.size) hfree hfrz (fun hs => by have := m.shIn _ hs; omega)
    (fun id hb => by have := m.boxIn id _ hb; omega) (fun g bs hg => by have := m.ownIn g _ _ hg; omega) ht0 ht1 htj
  refine ⟨_, h3, ⟨fun b hb => ⟨hb, heap_alloc_ne (m.shIn b hb)⟩, fun _ _ hb => hb, fun g => ?_⟩, by simp [updO], rfl⟩
  by_cases e1 : g = (1, d)
  · subst e1
    left
    cases e : C.own (1, d) with
    | none => rfl
    | dead => have := h.made d (by rw [e]; simp); rw [hfree] at this; cases this
    | live b base => have := h.made d (by rw [e]; simp); rw [hfree] at this; cases this
  · right; right
    exact ⟨by simp [updO, e1], fun b base hb => heap_alloc_ne (m.ownIn g b base hb)⟩

/-- A block that nobody knows is written. -/
theorem Conc.writeFree {X : Ent} {st : St} {C : Ctx} {a : Act} {w : World} (h : Conc X st C a w) {b o : Nat} {vs : List Value} (hm : X.mine b) (hs : ¬ C.Sh b) (hb : ∀ id, C.box id ≠ some b)
    (ho : ∀ g bs, C.own g ≠ .live b bs) : Conc X st C a (w.setCells b o vs) := by
  refine h.to ⟨fun k hk => ⟨hk, heap_setCells_ne _ _ _ _ fun e => hs (e ▸ hk)⟩, fun _ _ hb => hb, fun g => .inr (.inr ⟨rfl, fun k base hk => heap_setCells_ne _ _ _ _ fun e => ho g base (e ▸ hk)⟩)⟩
    (fun _ _ hb => hb) (fun id k hk => heap_setCells_ne _ _ _ _ fun e => hb id (e ▸ hk)) (h.mem.write hm) h.cons h.made

theorem cellsAt_setCells {w : World} {b off : Nat} {c : Array Value} {e : TypeId} {fr : Nat × Nat} {vs news : List Value} (hb : w.heap[b]? = some (.cells c e fr)) (hl : off + vs.length + news.length ≤ c.size)
    (h : cellsAt w b off vs) : cellsAt (w.setCells b (off + vs.length) news) b off (vs ++ news) := by
  intro j v hj
  by_cases hlt : j < vs.length
  · rw [List.getElem?_append_left hlt] at hj
    rw [World.cell?_setCells_out b news _ w _ (fun _ _ => by left; simp; omega)]
    exact h j v hj
  · rw [List.getElem?_append_right (by omega)] at hj
    have hj2 := (List.getElem?_eq_some_iff.1 hj).1
    have := World.cell?_setCells_in b news (off + vs.length) w (fun i hi => by simp only [World.cell?, hb]; simp; omega) (j - vs.length) hj2
    rw [show off + vs.length + (j - vs.length) = off + j by omega] at this
    rw [this, ← hj, List.getElem?_eq_getElem hj2]

def St.eat (st : St) (g : Stamp) (d : Nat) : St :=
  { st with cons := updS st.cons g true, made := upd st.made d true, res := upd st.res d (some (st.tname g)) }

/-- So many zero elements, as append takes them of a make. -/
structure SrcZ (P : Program) (size : Nat) (tx E : TypeId) (x : Value) (n : Nat) (news : List Value) : Prop where
  kind : ∃ k, P.underlying tx = some (.int k)
  val : ∃ k, x = .int k n
  small : n ≤ 9223372036854775807
  zero : ∃ i z, P.info? E = some i ∧ i.zero = some z ∧ (n : Int) * i.bytes ≤ 281474976710656 ∧ news = (Builtin.zeroCells z.cells n).toList ∧ (n * size = 0 → news = [])
  newsLen : news.length = n * size
  one : ∀ u ∈ news, u.oneCell' = true

def SrcG (P : Program) (size : Nat) (tx E : TypeId) (x : Value) (n : Nat) (news : List Value) (w : World) : Prop := Src P size tx x n news w ∨ SrcZ P size tx E x n news

theorem SrcG.newsLen {size : Nat} {tx E : TypeId} {x : Value} {n : Nat} {news : List Value} {w : World} (h : SrcG P size tx E x n news w) : news.length = n * size := h.elim (·.newsLen) (·.newsLen)
theorem SrcG.one {size : Nat} {tx E : TypeId} {x : Value} {n : Nat} {news : List Value} {w : World} (h : SrcG P size tx E x n news w) : ∀ u ∈ news, u.oneCell' = true := h.elim (·.one) (·.one)

theorem run_append_nothing_g (w : World) (t tx ty e : TypeId) (i : TypeInfo) (ht : P.underlying t = some (.slice e)) (hi : P.info? e = some i) (base : Option Addr) (sLen sCap : Nat) (hle : sLen ≤ sCap) (x : Value) (hs : SrcG P i.size tx e x 0 [] w) :
    (Builtin.append_ #[t, tx] ty #[.slice base sLen sCap, x]).run P w = .ok (.slice base sLen sCap) w := by
  rcases hs with hs | hs
  · exact run_append_nothing w t tx ty e i ht hi base sLen sCap hle x hs
  · obtain ⟨k, hk⟩ := hs.kind
    obtain ⟨k', rfl⟩ := hs.val
    have e0 : IntKind.wrap .i64 0 = 0 := by decide
    cases base <;> simp [Builtin.append_, run_underlying ht, run_underlying hk, sizeOf, typeInfo, hi, hle, asInt, asIntOf, e0, storeCells]

theorem run_append_room_g (w : World) (t tx ty e : TypeId) (i : TypeInfo) (ht : P.underlying t = some (.slice e)) (hi : P.info? e = some i) (b off sLen sCap : Nat) (x : Value) (n : Nat) (news : List Value) (hs : SrcG P i.size tx e x n news w)
    (hroom : sLen + n ≤ sCap) (hc : ∀ j, j < news.length → (w.cell? ⟨b, off + sLen * i.size + j, none⟩).isSome = true) (hf : ∀ j, j < news.length → w.frozen? ⟨b, off + sLen * i.size + j, none⟩ = false) :
    (Builtin.append_ #[t, tx] ty #[.slice (some ⟨b, off, none⟩) sLen sCap, x]).run P w = .ok (.slice (some ⟨b, off, none⟩) (sLen + n) sCap) (w.setCells b (off + sLen * i.size) news) := by
  rcases hs with hs | hs
  · exact run_append_room_src w t tx ty e i ht hi b off sLen sCap x n news hs hroom hc hf
  · have hst := run_storeCells_cells (P := P) b (off + sLen * i.size) news 0 w (by simpa using hc) (by simpa using hf) hs.one
    simp only [Nat.add_zero] at hst
    obtain ⟨k, hk⟩ := hs.kind
    obtain ⟨k', rfl⟩ := hs.val
    obtain ⟨i', z, hi', hz, hby, hnews, hnil⟩ := hs.zero
    rw [hi] at hi'; cases hi'
    have e0 : IntKind.wrap .i64 (n : Int) = n := Go.IntWalk.i64_in _ (by have := hs.small; omega)
    have h1 : ¬ ((n : Int) < 0) := by omega
    have h2 : ¬ (281474976710656 < (n : Int) * (i.bytes : Int)) := by omega
    by_cases h0 : n * i.size = 0
    · have hn := hnil h0
      rw [hn] at hst ⊢
      simp [Builtin.append_, run_underlying ht, run_underlying hk, sizeOf, typeInfo, hi, asInt, asIntOf, e0, h1, h2, hroom, h0, Addr.add_lit, hst]
    · simp [Builtin.append_, run_underlying ht, run_underlying hk, sizeOf, typeInfo, zeroValue, hi, hz, asInt, asIntOf, e0, h1, h2, hroom, h0, Addr.add_lit, ← hnews, hst]

theorem run_append_grow_g (w : World) (t tx ty e : TypeId) (i : TypeInfo) (z : Value) (ht : P.underlying t = some (.slice e)) (hi : P.info? e = some i) (hz : i.zero = some z) (base : Option Addr) (sLen sCap : Nat) (olds : List Value)
    (hold : (Builtin.firstCells i.size sLen (.slice base sLen sCap)).run P w.drew = .ok olds.toArray w.drew) (x : Value) (n : Nat) (news : List Value) (hs : SrcG P i.size tx e x n news w)
    (hg : sCap < sLen + n) (h63 : ((sLen + n : Nat) : Int) ≤ 9223372036854775807) (hfit : Builtin.nextslicecap (sLen + n) sCap * i.bytes ≤ 281474976710656) :
    (Builtin.append_ #[t, tx] ty #[.slice base sLen sCap, x]).run P w =
      .ok (.slice (some ⟨w.heap.size, 0, none⟩) (sLen + n) (grownCap w (sLen + n) sCap e))
        (w.drew.alloc (.cells ((olds ++ news).toArray ++ Builtin.zeroCells z.cells (grownCap w (sLen + n) sCap e - (sLen + n))) e)) := by
  rcases hs with hs | hs
  · exact run_append_grow_src w t tx ty e i z ht hi hz base sLen sCap olds hold x n news hs hg h63 hfit
  · obtain ⟨k, hk⟩ := hs.kind
    obtain ⟨k', rfl⟩ := hs.val
    obtain ⟨i', z', hi', hz', hby, hnews, hnil⟩ := hs.zero
    rw [hi] at hi'; cases hi'
    rw [hz] at hz'; cases hz'
    have e0 : IntKind.wrap .i64 (n : Int) = n := Go.IntWalk.i64_in _ (by have := hs.small; omega)
    have h1 : ¬ ((n : Int) < 0) := by omega
    have h2 : ¬ (281474976710656 < (n : Int) * (i.bytes : Int)) := by omega
    have hn : ¬ (sLen + n ≤ sCap) := by omega
    have h63' : ¬ (9223372036854775807 < ((sLen : Int) + (n : Int))) := by omega
    have h48' : ¬ (281474976710656 < Builtin.nextslicecap (sLen + n) sCap * i.bytes) := by omega
    by_cases h0 : n * i.size = 0
    · have hn' := hnil h0
      rw [hn']
      simp [Builtin.append_, run_underlying ht, run_underlying hk, sizeOf, typeInfo, zeroValue, hi, hz, asInt, asIntOf, e0, h1, h2, hn, h63', h48', Question.forced, hold, h0, newRow, grownCap]
    · simp [Builtin.append_, run_underlying ht, run_underlying hk, sizeOf, typeInfo, zeroValue, hi, hz, asInt, asIntOf, e0, h1, h2, hn, h63', h48', Question.forced, hold, h0, newRow, grownCap, hnews]
      congr 2
      apply Array.ext'
      simp [List.append_assoc]

/-- Onto what is nil. -/
theorem app_nil {X : Ent} {st : St} {C : Ctx} {a : Act} {w : World} (h : Conc X st C a w) {d : Nat} {t0 : Stamp} (hfree : st.made d = false) (hfrz : st.frz (1, d) = false)
    (ht0 : st.cons t0 = true) (ht1 : t0.1 ≠ 1) (htj : ∀ k, st.cons (1, k) = false → st.res k = some t0 → False)
    {ts tx ty E : TypeId} (hT : P.underlying ts = some (.slice E)) (hE : P.rowOk E = true) {l' : List AV} {u2 : Value} {news : List Value} (hs : SrcG P (P.cellsOf E) tx E u2 l'.length news w) (hr : RepRow w C.Sh (P.cellsOf E) l' news)
    (hby : l'.length * P.bytesOf E ≤ 140737488355328) (h63 : l'.length ≤ 9223372036854775807) :
    ∃ u w' C', (Builtin.append_ #[ts, tx] ty #[.slice none 0 0, u2]).run P w = .ok u w' ∧ Conc X { st with made := upd st.made d true, res := upd st.res d (some t0) } C' a w' ∧
      Rep w' C' (.sl (some ((1, d), 0)) l'.isEmpty (P.cellsOf E) l') u := by
  obtain ⟨i, z, hi, hz, hzs, hsz, hbz⟩ := rowOk_of hE
  cases l' with
  | nil =>
    simp only [RepRow] at hr
    subst hr
    exact ⟨_, w, C, run_append_nothing_g w ts tx ty E i hT hi none 0 0 (Nat.le_refl _) u2 (by rw [hsz]; exact hs), h.mark hfree ht0 ht1 htj, .inr (.inl ⟨rfl, rfl, rfl⟩)⟩
  | cons e l =>
    have hlen : 0 < (e :: l).length := by simp
    generalize e :: l = l' at *
    have hrun := run_append_grow_g w ts tx ty E i z hT hi hz none 0 0 [] (run_firstCells_none _ _ _ _ _) u2 l'.length news (by rw [hsz]; exact hs) (by omega) (by omega) (by rw [hbz]; exact growslice_fits (by omega) (by simpa using hby))
    have h1 := h.same (w' := w.drew) rfl rfl rfl rfl
    have hcap : l'.length ≤ grownCap w (0 + l'.length) 0 E := by
      simp only [grownCap, Question.cut]; omega
    generalize grownCap w (0 + l'.length) 0 E = cp at hrun hcap
    obtain ⟨zc, hzc⟩ : ∃ zc, zc = Builtin.zeroCells z.cells (cp - (0 + l'.length)) := ⟨_, rfl⟩
    have hzl : zc.toList.length = (cp - l'.length) * P.cellsOf E := by
      rw [hzc, Array.length_toList, size_zeroCells, hzs, hsz, Nat.zero_add]
    have harr : ([] ++ news).toArray ++ zc = (news ++ zc.toList).toArray := by apply Array.ext'; simp
    rw [← hzc, harr] at hrun
    obtain ⟨C', h2, t, ho, _⟩ := h1.newBlockAt hfree hfrz ht0 ht1 htj (news ++ zc.toList).toArray E
    refine ⟨_, _, C', hrun, h2, ?_⟩
    have he : l'.isEmpty = false := by cases l' with
      | nil => simp at hlen
      | cons => rfl
    have hr' : RepRow w.drew C.Sh (P.cellsOf E) l' news := RepRow.keep (w := w) (w' := w.drew) (fun b hb => ⟨hb, rfl⟩) _ _ _ hr
    have := rep_new (w := w.drew) (C := C) (C' := C') (d := d) (sz := P.cellsOf E) (cap := cp) (l := l') (c := news) (r := zc.toList) (e := E) t ho hr' hcap
      (by
        have h1 := hr.length
        rw [hzl, h1, ← Nat.add_mul]
        congr 1
        omega)
    rw [he, Nat.zero_add]
    exact this

/-- Onto what a name owns. -/
theorem app_own {X : Ent} {st : St} {C : Ctx} {a : Act} {w : World} (h : Conc X st C a w) {d : Nat} {t0 : Stamp} (hfree : st.made d = false) (hfrz : st.frz (1, d) = false)
    (ht0 : st.cons t0 = true) (ht1 : t0.1 ≠ 1) (htj : ∀ k, st.cons (1, k) = false → st.res k = some t0 → False)
    {ts tx ty E : TypeId} (hT : P.underlying ts = some (.slice E)) (hE : P.rowOk E = true) {l l' : List AV} {u2 : Value} {news : List Value} (hs : SrcG P (P.cellsOf E) tx E u2 l'.length news w) (hr : RepRow w C.Sh (P.cellsOf E) l' news)
    (hby : (l.length + l'.length) * P.bytesOf E ≤ 140737488355328) (h63 : l.length + l'.length ≤ 9223372036854775807)
    {b off cap : Nat} {vs : List Value} (hlc : l.length ≤ cap) (hc : cellsAt w b off vs) (hr0 : RepRow w C.Sh (P.cellsOf E) l vs) (hop : openBlock w b (off + cap * P.cellsOf E))
    (hm : X.mine b) (hsh : ¬ C.Sh b) (hbox : ∀ id, C.box id ≠ some b) (hown : ∀ g bs, C.own g ≠ .live b bs) :
    ∃ u w' C', (Builtin.append_ #[ts, tx] ty #[.slice (some ⟨b, off, none⟩) l.length cap, u2]).run P w = .ok u w' ∧ Conc X { st with made := upd st.made d true, res := upd st.res d (some t0) } C' a w' ∧
      Rep w' C' (.sl (some ((1, d), 0)) false (P.cellsOf E) (l ++ l')) u := by
  obtain ⟨i, z, hi, hz, hzs, hsz, hbz⟩ := rowOk_of hE
  obtain ⟨c, e, lo, hi', q1, q2, q3, q4⟩ := hop
  have hvl := hr0.length
  have hnl := hr.length
  by_cases hroom : l.length + l'.length ≤ cap
  · have hsum : (l.length + l'.length) * P.cellsOf E ≤ cap * P.cellsOf E := Nat.mul_le_mul_right _ hroom
    rw [Nat.add_mul] at hsum
    have hrun := run_append_room_g w ts tx ty E i hT hi b off l.length cap u2 l'.length news (by rw [hsz]; exact hs) hroom
      (fun j hj => by rw [hsz]; simp only [World.cell?, q1]; simp; omega)
      (fun j hj => by rw [hsz]; have := q3 (off + l.length * P.cellsOf E + j) (by omega); simp only [World.frozen?, q1]; simp; omega)
    rw [hsz] at hrun
    have h1 := h.writeFree (o := off + l.length * P.cellsOf E) (vs := news) hm hsh hbox hown
    have hlt : b < w.heap.size := (Array.getElem?_eq_some_iff.1 q1).1
    have h2 := h1.ownNew (d := d) (b := b) (base := off) (t0 := t0) (by rw [heap_setCells_size]; exact hlt) hm hfree hfrz hsh hbox hown ht0 ht1 htj
    refine ⟨_, _, _, hrun, h2, .inr (.inr ⟨rfl, b, off, off, cap, vs ++ news, by simp [updO], .inl (by simp), by simp, by simpa using hroom, ?_, ?_, ?_⟩)⟩
    · rw [← hvl]
      exact cellsAt_setCells q1 (by omega) hc
    · have k : ∀ x, C.Sh x → C.Sh x ∧ (w.setCells b (off + l.length * P.cellsOf E) news).heap[x]? = w.heap[x]? := fun x hx => ⟨hx, heap_setCells_ne _ _ _ _ fun e => hsh (e ▸ hx)⟩
      exact (RepRow.keep k _ _ _ hr0).append (RepRow.keep k _ _ _ hr)
    · have hl2 : off + l.length * P.cellsOf E + news.length ≤ c.size := by omega
      refine ⟨_, e, lo, hi', heap_setCells_at news _ w c e _ q1 hl2, ?_, ?_, q4⟩
      · simp only [List.size_toArray]
        rw [putAt_length (by rw [Array.length_toList]; exact hl2), Array.length_toList]
        exact q2
      · intro o ho
        simp only [List.size_toArray] at ho
        rw [putAt_length (by rw [Array.length_toList]; exact hl2), Array.length_toList] at ho
        exact q3 o ho
  · have hrun := run_append_grow_g w ts tx ty E i z hT hi hz (some ⟨b, off, none⟩) l.length cap vs
      (run_firstCells_some _ _ _ _ _ _ _ (by rw [hsz]; exact hvl) (fun j v hj => by rw [Addr.add_mid]; exact hc j v hj)) u2 l'.length news (by rw [hsz]; exact hs) (by omega) (by omega)
      (by rw [hbz]; exact growslice_fits (by omega) hby)
    have h1 := h.same (w' := w.drew) rfl rfl rfl rfl
    have hcap : l.length + l'.length ≤ grownCap w (l.length + l'.length) cap E := by
      simp only [grownCap, Question.cut]; omega
    generalize grownCap w (l.length + l'.length) cap E = cp at hrun hcap
    obtain ⟨zc, hzc⟩ : ∃ zc, zc = Builtin.zeroCells z.cells (cp - (l.length + l'.length)) := ⟨_, rfl⟩
    have hzl : zc.toList.length = (cp - (l.length + l'.length)) * P.cellsOf E := by
      rw [hzc, Array.length_toList, size_zeroCells, hzs, hsz]
    have harr : (vs ++ news).toArray ++ zc = ((vs ++ news) ++ zc.toList).toArray := by apply Array.ext'; simp
    rw [← hzc, harr] at hrun
    obtain ⟨C', h2, t, ho, _⟩ := h1.newBlockAt hfree hfrz ht0 ht1 htj ((vs ++ news) ++ zc.toList).toArray E
    refine ⟨_, _, C', hrun, h2, ?_⟩
    have hr' : RepRow w.drew C.Sh (P.cellsOf E) (l ++ l') (vs ++ news) := RepRow.keep (w := w) (w' := w.drew) (fun b hb => ⟨hb, rfl⟩) _ _ _ (hr0.append hr)
    have := rep_new (w := w.drew) (C := C) (C' := C') (d := d) (sz := P.cellsOf E) (cap := cp) (l := l ++ l') (c := vs ++ news) (r := zc.toList) (e := E) t ho hr' (by simpa using hcap)
      (by
        rw [hzl, List.length_append, hvl, hnl, ← Nat.add_mul, ← Nat.add_mul]
        congr 1
        omega)
    rw [List.length_append] at this
    exact this
end Go.VS
