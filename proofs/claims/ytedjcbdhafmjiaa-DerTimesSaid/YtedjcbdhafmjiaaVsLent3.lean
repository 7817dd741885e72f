/- Part of a framework that states what Go functions answer on values as data; it holds for every program of the model. -/
import Derived.Test.YtedjcbdhafmjiaaVsLent2
namespace Go.VS
set_option linter.unusedVariables false
set_option linter.unusedSimpArgs false
set_option linter.unusedSectionVars false
open Go
variable {P : Program}

theorem nm_inj {d p p' : Nat} (h : nm d p = nm d p') : p = p' := by unfold nm at h; omega

theorem setBs_get {kd : Nat} {bids : List Nat} : ∀ (is : List Nat) (cs : List (List AV)) (f : Nat → Option (List AV)), nodupN is = true → is.length = cs.length →
    (∀ (i id : Nat) (c : List AV), is[i]? = some id → cs[i]? = some c → setBs kd bids is cs f id = some (backL kd bids c)) ∧ (∀ id, hasN is id = false → setBs kd bids is cs f id = f id)
  | [], [], f, _, _ => ⟨fun i id c h => by simp at h, fun id _ => rfl⟩
  | [], c :: cs, f, _, h => by simp at h
  | k :: is, [], f, _, h => by simp at h
  | k :: is, c :: cs, f, hn, hl => by
    simp only [nodupN, Bool.and_eq_true, Bool.not_eq_true'] at hn
    obtain ⟨h1, h2⟩ := setBs_get (kd := kd) (bids := bids) is cs (upd f k (some (backL kd bids c))) hn.2 (by simpa using hl)
    refine ⟨fun i id c' hi hc => ?_, fun id hid => ?_⟩
    · cases i with
      | zero =>
        simp at hi hc; subst hi; subst hc
        simp only [setBs]
        rw [h2 k hn.1]; simp
      | succ i => exact h1 i id c' (by simpa using hi) (by simpa using hc)
    · simp only [hasN] at hid
      split at hid
      · cases hid
      · rename_i e
        simp only [setBs]
        rw [h2 id hid, upd_ne _ _ e]

theorem nodupN_append {l r : List Nat} (hl : nodupN l = true) (hr : nodupN r = true) (h : ∀ x, hasN l x = true → hasN r x = true → False) : nodupN (l ++ r) = true := by
  induction l with
  | nil => exact hr
  | cons k l ih =>
    simp only [nodupN, Bool.and_eq_true, Bool.not_eq_true', List.cons_append] at hl ⊢
    refine ⟨?_, ih hl.2 fun x hx => h x (by simp only [hasN]; split <;> simp [hx])⟩
    cases e : hasN (l ++ r) k with
    | false => rfl
    | true =>
      rcases List.mem_append.1 (hasN_mem.1 e) with e | e
      · rw [hasN_mem.2 e] at hl; cases hl.1
      · exact (h k (by simp [hasN]) (hasN_mem.2 e)).elim
theorem nodupN_bxIds : ∀ (n k : Nat), nodupN (bxIds k n) = true
  | 0, k => rfl
  | n + 1, k => by
    simp only [bxIds, nodupN, nodupN_bxIds n (k + 1), Bool.and_true, Bool.not_eq_true']
    cases e : hasN (bxIds (k + 1) n) k with
    | false => rfl
    | true =>
      obtain ⟨i, hi⟩ := List.mem_iff_getElem?.1 (hasN_mem.1 e)
      rw [bxIds_get] at hi
      split at hi
      · simp at hi; omega
      · cases hi

mutual
theorem okB_froz (ids : List Nat) : ∀ (a : AV), okB ids (froz a) = okB ids a
  | .undef => rfl
  | .int .. => rfl
  | .bool .. => rfl
  | .str .. => rfl
  | .sl .. => rfl
  | .ptr .. => rfl
  | .nilp => rfl
  | .eptr .. => rfl
  | .agg cs => okBL_froz ids cs
  | .tup cs => rfl
  | .fn f cs => okBL_froz ids cs
  | .nilf => rfl
  | .bsl .. => rfl
theorem okBL_froz (ids : List Nat) : ∀ (l : List AV), okBL ids (frozL l) = okBL ids l
  | [] => rfl
  | c :: cs => by simp only [frozL, okBL, okB_froz ids c, okBL_froz ids cs]
end

theorem newsT_bx : ∀ (l : List (Nat × Stamp)) (st : St) (B B' : Nat → Option (List AV)), ({ ({ st with bx := B } : St).newsT l with bx := B' } : St) = { st.newsT l with bx := B' }
  | [], _, _, _ => rfl
  | (k, t) :: l, st, B, B' => newsT_bx l ({ st with made := upd st.made k true, res := upd st.res k (some t) } : St) B B'

/-- What is called, and on what values. -/
theorem calls_enter {X : Ent} {st : St} {o : Oper} {f : FuncId} {as : List AV} (h : calls P st o = some (f, as)) (hok : callOk P f = true) {C : Ctx} {a : Act} {w : World} (hC : Conc X st C a w) :
    ∃ vals : List Value, (execOp a.eval o).run P w = .ok (.enter f vals.toArray) w ∧ as.length = vals.length ∧ ∀ (i : Nat) (v : AV) (u : Value), as[i]? = some v → vals[i]? = some u → Rep w C v u := by
  unfold calls at h
  split at h
  · rename_i c ho
    split at h
    · rename_i x hcal
      split at h
      · rename_i f' cap hx
        cases h
        have hfr := hC.ev P 0 x
        rw [hx] at hfr
        obtain ⟨cvs, hfv, hcap⟩ := hfr
        obtain ⟨hl, hev⟩ := evArgs_rep (P := P) hC c.args.toList c.argTypes.toList
        refine ⟨c.args.toList.map a.eval ++ cvs, ?_, by simp [hl, hcap.length], ?_⟩
        · unfold callOk at hok
          split at hok
          · rename_i fn hfn
            simp only [Bool.and_eq_true, bne_iff_ne, ne_eq] at hok
            obtain ⟨hb1, hb2⟩ := hok
            have e : (c.args.map a.eval ++ cvs.toArray) = (c.args.toList.map a.eval ++ cvs).toArray := by apply Array.ext'; simp
            simp [execOp, ho, resolve, hcal, hfv, Deferred.ofValue, invoke, callFunc, hfn, hb2, e]
            intro hbn; simp [hbn] at hb1
          · cases hok
        · intro i v u hv hu
          by_cases hi : i < c.args.toList.length
          · rw [List.getElem?_append_left (by omega)] at hv
            rw [List.getElem?_append_left (by simpa using hi)] at hu
            exact hev i v u hv hu
          · rw [List.getElem?_append_right (by omega)] at hv
            rw [List.getElem?_append_right (by simpa using hi)] at hu
            obtain ⟨u', hu', _, hr⟩ := hcap.get hv
            simp only [List.length_map] at hu
            rw [hl, hu] at hu'
            cases hu'
            exact hr
      · cases h
    · cases h
  · cases h

theorem undefs_rep {w : World} {C : Ctx} : ∀ {cs : List AV} {vs : List Value} {w2 : World} {C2 : Ctx}, RepS w2 C2 cs vs → RepS w C (cs.map fun _ => .undef) vs
  | [], _, _, _, h => h
  | c :: cs, _, _, _, h => by
    obtain ⟨v, r, h1, h0, _, h3⟩ := h
    exact ⟨v, r, h1, h0, trivial, undefs_rep h3⟩

theorem ansBLL_get {m : Nat} : ∀ {css : List (List AV)}, ansBLL m css = true → ∀ (i : Nat) (cs : List AV), css[i]? = some cs → ansBL m cs = true
  | [], _, i, cs, h => by simp at h
  | c :: r, h, i, cs, hi => by
    simp only [ansBLL, Bool.and_eq_true] at h
    cases i with
    | zero => simp at hi; subst hi; exact h.1
    | succ i => exact ansBLL_get h.2 i cs (by simpa using hi)
theorem posLL_get : ∀ {css : List (List AV)} (i : Nat) (cs : List AV), css[i]? = some cs → ∀ g ∈ posL cs, g ∈ posLL css
  | [], i, cs, h => by simp at h
  | c :: r, i, cs, hi => by
    intro g hg
    cases i with
    | zero => simp at hi; subst hi; simp [posLL, hg]
    | succ i => simp [posLL, posLL_get i cs (by simpa using hi) g hg]

theorem step_callB {X : Ent} {st st' : St} {o : Oper} {f : FuncId} {as : List AV} {ids : List Nat} {L : Lent} {r : AV} {bs' : List (List AV)} (h : calls P st o = some (f, as)) (hok : callOk P f = true)
    (hl : lendSt st as ids = some L) (hc : CallsB P f L.args L.bs r bs') (hst : backSt st o.dst as L.ids L.gs r bs' = some st') (hd : St.fits X.n o.dst = true) : OpStep P X st o st' := by
  intro C a w hC K Q hK
  obtain ⟨vals, hexec, hlen, hvals⟩ := calls_enter h hok hC
  unfold Oper.wp
  rw [hexec, Oper.upon_enter]
  -- what is lent
  unfold lendSt at hl
  obtain ⟨css, hcss, hl⟩ := Option.bind_eq_some_iff.1 hl
  obtain ⟨⟨l1, l2, l3, l4, l5⟩, hl⟩ := need_some hl
  cases hl
  simp only at hc hst
  generalize hgs : stALL css = gs at *
  obtain ⟨hcl, hcg⟩ := boxesOf_get hcss
  have hnd : gs.Nodup := nodupS_ok l4
  have hgl : ∀ g ∈ gs, st.cons g = false ∧ st.frz g = false ∧ (g.1 = 1 → st.made g.2 = true) := fun g hg => by
    have := List.all_eq_true.1 l5 g hg
    simp only [Bool.and_eq_true, Bool.not_eq_true', Bool.or_eq_true, bne_iff_ne, ne_eq] at this
    exact ⟨this.1.1, this.1.2, fun e => this.2.resolve_left (fun h => h e)⟩
  have hal : ∀ v ∈ as, okB ids v = true ∧ stA (froz v) = [] ∧ ∀ g ∈ stampsOf v, st.cons g = false ∧ g ∉ gs := fun v hv => by
    have := List.all_eq_true.1 l2 v hv
    simp only [Bool.and_eq_true, List.all_eq_true, Bool.not_eq_true', List.isEmpty_iff] at this
    exact ⟨this.1.1, this.1.2, fun g hg => ⟨(this.2 g hg).1, fun hm => by have := (this.2 g hg).2; rw [hasS_mem.2 hm] at this; cases this⟩⟩
  obtain ⟨C1, hc1, t1, o1, b1, m1, s1⟩ := hC.freezeL (as.flatMap stampsOf) (fun g hg => by
    obtain ⟨v, hv, hg⟩ := List.mem_flatMap.1 hg
    exact ((hal v hv).2.2 g hg).1)
  have hf1 : ∀ g ∈ gs, (st.freezeL (as.flatMap stampsOf)).frz g = false := fun g hg => freezeL_not _ st g (hgl g hg).2.1 fun hm => by
    obtain ⟨v, hv, hm⟩ := List.mem_flatMap.1 hm
    exact ((hal v hv).2.2 g hm).2 hg
  have hsame := freezeL_same (as.flatMap stampsOf) st
  generalize hst1 : st.freezeL (as.flatMap stampsOf) = st1 at *
  have m := hc1.mem
  -- the callee's view
  let C0 : Ctx := ⟨C1.Sh, fun g => if g.1 = 4 then (match gs[g.2]? with | some g' => C1.own g' | none => .none) else .none, fun id => if 1000000 ≤ id then (ids[id - 1000000]?).bind C1.box else none⟩
  let own0 : Nat → Prop := fun b => (∃ id, C0.box id = some b) ∨ ∃ g base, C0.own g = .live b base
  have lk0 : ∀ (g : Stamp) b base, C0.own g = .live b base → ∃ g0, g.1 = 4 ∧ gs[g.2]? = some g0 ∧ C1.own g0 = .live b base := by
    intro g b base hg
    replace hg : (if g.1 = 4 then (match gs[g.2]? with | some g => C1.own g | none => Own.none) else .none) = .live b base := hg
    split at hg
    · rename_i e
      split at hg
      · rename_i g0 e0
        exact ⟨g0, e, e0, hg⟩
      · cases hg
    · cases hg
  have bk0 : ∀ id b, C0.box id = some b → 1000000 ≤ id ∧ ∃ k, ids[id - 1000000]? = some k ∧ C1.box k = some b := fun id b hh => by
    replace hh : (if 1000000 ≤ id then (ids[id - 1000000]?).bind C1.box else none) = some b := hh
    split at hh
    · obtain ⟨k, h1, h2⟩ := Option.bind_eq_some_iff.1 hh
      exact ⟨by assumption, k, h1, h2⟩
    · cases hh
  have bk1 : ∀ i id b, ids[i]? = some id → C1.box id = some b → C0.box (1000000 + i) = some b := fun i id b hi hb => by
    have e : C0.box (1000000 + i) = (if 1000000 ≤ 1000000 + i then (ids[1000000 + i - 1000000]?).bind C1.box else none) := rfl
    rw [e, if_pos (by omega), show 1000000 + i - 1000000 = i by omega, hi]
    exact hb
  have tch : ∀ b, own0 b → (∃ id, hasN ids id = true ∧ C1.box id = some b) ∨ ∃ g base, g ∈ gs ∧ C1.own g = .live b base := by
    rintro b (⟨id, hb⟩ | ⟨g, base, hg⟩)
    · obtain ⟨_, k, h1, h2⟩ := bk0 id b hb
      exact .inl ⟨k, hasN_mem.2 (List.mem_of_getElem? h1), h2⟩
    · obtain ⟨g0, _, h1, h2⟩ := lk0 g b base hg
      exact .inr ⟨g0, base, List.mem_of_getElem? h1, h2⟩
  have tMine : ∀ b, own0 b → X.mine b := fun b hb => (tch b hb).elim (fun ⟨id, _, h⟩ => m.boxMine id b h) fun ⟨g, base, hg, h⟩ => m.ownMine g b base h (hf1 g hg)
  have tSh : ∀ b, own0 b → ¬ C1.Sh b := fun b hb hs => (tch b hb).elim (fun ⟨id, _, h⟩ => m.boxSh id b h hs) fun ⟨g, base, hg, h⟩ => m.ownSh g b base h (hf1 g hg) hs
  have tIn : ∀ b, own0 b → b < w.heap.size := fun b hb => (tch b hb).elim (fun ⟨id, _, h⟩ => m.boxIn id b h) fun ⟨g, base, hg, h⟩ => m.ownIn g b base h
  have tOwn : ∀ b g base, own0 b → C1.own g = .live b base → g ∈ gs := fun b g base hb hg => by
    rcases tch b hb with ⟨id, _, h⟩ | ⟨g', base', hg', h⟩
    · exact absurd hg (hc1.boxNoOwn h g base)
    · have := m.ownOne g' g b base' base h hg (hf1 g' hg')
      rw [← this]; exact hg'
  have tBox : ∀ b id, own0 b → C1.box id = some b → hasN ids id = true := fun b id hb hid => by
    rcases tch b hb with ⟨id', hh, h⟩ | ⟨g', base', hg', h⟩
    · rw [m.boxOne id id' b hid h]; exact hh
    · exact absurd h (hc1.boxNoOwn hid g' base')
  have hbig : ∀ id b, C0.box id = some b → 1000000 ≤ id := fun id b h => (bk0 id b h).1
  have htab : tblOk w C0.Sh := m.tab
  have hsh0 : ∀ b, C0.Sh b → b < w.heap.size ∧ ¬ own0 b := fun b hb => ⟨m.shIn b hb, fun h => tSh b h hb⟩
  have hm0 : MemOk (Ent.lent w C0 own0 0 hbig htab hsh0) (fun _ => false) C0 w :=
    { shIn := m.shIn, shFrom := fun b hb => .inl hb, shOld := fun b hb => hb,
      ownIn := fun g b base hg => by obtain ⟨g0, _, _, h2⟩ := lk0 g b base hg; exact m.ownIn g0 b base h2,
      ownOne := fun g g' b base base' hg hg' _ => by
        obtain ⟨g0, e, e0, h2⟩ := lk0 g b base hg
        obtain ⟨g0', e', e0', h2'⟩ := lk0 g' b base' hg'
        have := m.ownOne g0 g0' b base base' h2 h2' (hf1 g0 (List.mem_of_getElem? e0))
        subst this
        have hi := (List.getElem?_eq_some_iff.1 e0).1
        have := (List.getElem?_inj hi hnd).1 (e0.trans e0'.symm)
        obtain ⟨x, y⟩ := g; obtain ⟨x', y'⟩ := g'
        simp only at e e' this
        rw [e, e', this],
      ownBox := fun g b base id hg _ hb => by
        obtain ⟨g0, _, e0, h2⟩ := lk0 g b base hg
        obtain ⟨_, k, _, h3⟩ := bk0 id b hb
        exact m.ownBox g0 b base k h2 (hf1 g0 (List.mem_of_getElem? e0)) h3,
      ownSh := fun g b base hg _ hs => by obtain ⟨g0, _, e0, h2⟩ := lk0 g b base hg; exact m.ownSh g0 b base h2 (hf1 g0 (List.mem_of_getElem? e0)) hs,
      ownFrz := fun g b base hg hf => (by cases hf),
      ownMine := fun g b base hg _ => .inr (.inr ⟨g, base, hg⟩),
      boxIn := fun id b hb => by obtain ⟨_, k, _, h3⟩ := bk0 id b hb; exact m.boxIn k b h3,
      boxOne := fun id id' b hb hb' => by
        obtain ⟨g1, k, e1, h1⟩ := bk0 id b hb
        obtain ⟨g2, k', e2, h2⟩ := bk0 id' b hb'
        have := m.boxOne k k' b h1 h2
        subst this
        have := posN_at l1 e1
        have := posN_at l1 e2
        omega,
      boxSh := fun id b hb hs => by obtain ⟨_, k, _, h3⟩ := bk0 id b hb; exact m.boxSh k b h3 hs,
      boxMine := fun id b hb => .inr (.inl ⟨id, hb⟩),
      kept := fun _ _ _ => rfl, size := Nat.le_refl _, os := rfl, tape := rfl, output := rfl, inB := fun _ _ h => h }
  have hrn : ∀ id b, hasN ids id = true → C1.box id = some b → C0.box (1000000 + posN ids id) = some b := fun id b hh hb => bk1 _ id b (posN_get hh) hb
  have hargs : ∀ (i : Nat) (v : AV) (u : Value), (as.map fun a => rnB 4 [] ids (froz a))[i]? = some v → vals[i]? = some u → Rep w C0 v u := by
    intro i v u hv hu
    simp only [List.getElem?_map, Option.map_eq_some_iff] at hv
    obtain ⟨v0, hv0, rfl⟩ := hv
    have hmem : v0 ∈ as := List.mem_of_getElem? hv0
    obtain ⟨q1, q2, q3⟩ := hal v0 hmem
    have hr : Rep w C1 v0 u := Rep.to t1 v0 u (hvals i v0 u hv0 hu)
    have hfz : Rep w C1 (froz v0) u := by
      refine frozR_ok v0 u (fun g hg => ⟨fun e => ?_, fun b base hb => ?_⟩) hr
      · rw [o1] at e
        have := (hC.cons g).2 e
        rw [(q3 g hg).1] at this; cases this
      · rw [o1] at hb
        exact s1 g (List.mem_flatMap.2 ⟨v0, hmem, hg⟩) b base hb
    have hok' : okB ids (froz v0) = true := by rw [okB_froz]; exact q1
    exact Rep.rnB (C := C1) (C2 := C0) rfl hrn _ u hok' (by rw [q2]; simp) hfz
  have hbxs : ∀ (i : Nat) (cs : List AV), (rnBLL 4 gs ids css)[i]? = some cs → BoxAt w C0 (1000000 + i) cs := by
    intro i cs hi0
    rw [rnBLL_get] at hi0
    obtain ⟨cs0, hi, rfl⟩ := Option.map_eq_some_iff.1 hi0
    have hlt := (List.getElem?_eq_some_iff.1 hi).1
    have hid : ids[i]? = some ids[i] := List.getElem?_eq_getElem (by omega)
    obtain ⟨cs1, h1, h2⟩ := hcg i _ hid
    rw [hi] at h1; cases h1
    obtain ⟨b, c', e, lo, hi', g1, g2, g3, g4⟩ := hc1.boxes _ _ (by rw [hsame.2.1]; exact h2)
    refine ⟨b, c', e, lo, hi', bk1 i _ b hid g1, g2, g3, RepS.rnB (C := C1) (C2 := C0) rfl hrn cs0 _ (okBLL_get l3 i cs0 hi) (fun g hg => ?_) g4⟩
    have hm : g ∈ gs := by rw [← hgs]; exact stALL_get i cs0 hi g hg
    have e : C0.own (4, posS gs g) = (if (4 : Nat) = 4 then (match gs[posS gs g]? with | some g' => C1.own g' | none => Own.none) else .none) := rfl
    rw [e, if_pos rfl, posS_get (hasS_mem.2 hm)]
  refine (hc w C0 own0 hbig htab hsh0 vals hm0 (fun g hg => ?_) (fun g hg => ?_) (fun id b hb => ?_) (by rw [List.length_map]; exact hlen) hargs hbxs).mono ?_
  · by_cases e : g.1 = 4
    · exact e
    · have e2 : C0.own g = (if g.1 = 4 then (match gs[g.2]? with | some g' => C1.own g' | none => Own.none) else .none) := rfl
      exact absurd (by rw [e2, if_neg e]) hg
  · replace hg : (if g.1 = 4 then (match gs[g.2]? with | some g => C1.own g | none => Own.none) else .none) = .dead := hg
    split at hg
    · split at hg
      · rename_i g0 e0
        have := (hc1.cons g0).2 hg
        rw [hsame.2.2.1, (hgl g0 (List.mem_of_getElem? e0)).1] at this; cases this
      · cases hg
    · cases hg
  · obtain ⟨h1, k, h2, _⟩ := bk0 id b hb
    have := (List.getElem?_eq_some_iff.1 h2).1
    rw [rnBLL_length]
    omega
  rintro e w' ⟨v, C', rfl, hr, m', hdd, hbx', hin'⟩
  -- what comes back
  unfold backSt at hst
  simp only [hst1] at hst
  obtain ⟨⟨r1, r2, r3, r4, r5, r6⟩, hst⟩ := need_some hst
  cases hst
  generalize hkd : baseOf st o.dst = kd at *
  generalize hnews : bxIds (100000 + 10 * kd) (bs'.length - ids.length) = nids at *
  have hnl : nids.length = bs'.length - ids.length := by rw [← hnews, bxIds_length]
  generalize hps : posLL bs' ++ posOf r = ps at *
  have hpn : ps.Nodup := nodupN_ok r5
  have hpc : ∀ p ∈ ps, st.made (nm kd p) = false ∧ st1.frz (1, nm kd p) = false ∧ (gs.length ≤ p → st.cons (0, nm kd p) = false ∧ (0, nm kd p) ∉ gs) := fun p hp => by
    have := List.all_eq_true.1 r6 p hp
    simp only [Bool.and_eq_true, Bool.not_eq_true', Bool.or_eq_true, decide_eq_true_eq] at this
    exact ⟨this.1.1, this.1.2, fun hle => (this.2.resolve_left (by omega)).imp id fun h hm => by rw [hasS_mem.2 hm] at h; cases h⟩
  generalize hks : (ps.filter fun p => decide (gs.length ≤ p)).map (fun p => ((0, nm kd p) : Stamp)) = ks at *
  have hksm : ∀ x, x ∈ ks ↔ ∃ p ∈ ps, gs.length ≤ p ∧ x = (0, nm kd p) := fun x => by
    rw [← hks]
    simp only [List.mem_map, List.mem_filter, decide_eq_true_eq]
    constructor
    · rintro ⟨p, ⟨h1, h2⟩, rfl⟩; exact ⟨p, h1, h2, rfl⟩
    · rintro ⟨p, h1, h2, rfl⟩; exact ⟨p, ⟨h1, h2⟩, rfl⟩
  obtain ⟨C2, hc2, sh2, bx2, dead2, keep2⟩ := hc1.killL (gs ++ ks) (fun g hg e => by
    rcases List.mem_append.1 hg with hg | hg
    · rw [hsame.2.2.2.1]; exact (hgl g hg).2.2 e
    · obtain ⟨p, _, _, rfl⟩ := (hksm g).1 hg
      simp at e)
  have hkill := killL_same (gs ++ ks) st1
  have hkc := killL_cons (gs ++ ks) st1
  generalize hst2 : st1.killL (gs ++ ks) = st2 at *
  have m2 := hc2.mem
  have live2 : ∀ g b base, C2.own g = .live b base → C1.own g = .live b base ∧ g ∉ gs := fun g b base hg => by
    by_cases e : g ∈ gs ++ ks
    · rw [dead2 g e] at hg; cases hg
    · rw [keep2 g e] at hg; exact ⟨hg, fun h => e (List.mem_append_left _ h)⟩
  have noT : ∀ g b base, C2.own g = .live b base → ¬ own0 b := fun g b base hg hb => (live2 g b base hg).2 (tOwn b g base hb (live2 g b base hg).1)
  -- the boxes
  generalize hbids : ids ++ nids = bids at *
  have hbl : bids.length = bs'.length := by rw [← hbids, List.length_append, hnl]; omega
  have hisNone : ∀ id, hasN nids id = true → st.bx id = none := fun id hh => by
    have := List.all_eq_true.1 r2 id (hasN_mem.1 hh)
    simpa using this
  have hidsSome : ∀ id, hasN ids id = true → ∃ cs, st.bx id = some cs := fun id hh => by
    obtain ⟨cs, _, h2⟩ := hcg _ id (posN_get hh)
    exact ⟨cs, h2⟩
  have hbn : nodupN bids = true := by
    rw [← hbids]
    refine nodupN_append l1 (by rw [← hnews]; exact nodupN_bxIds _ _) fun x h1 h2 => ?_
    obtain ⟨cs, hcs⟩ := hidsSome x h1
    rw [hisNone x h2] at hcs; cases hcs
  have hbget : ∀ i id, ids[i]? = some id → bids[i]? = some id := fun i id hi => by
    rw [← hbids, List.getElem?_append_left (List.getElem?_eq_some_iff.1 hi).1]; exact hi
  have noNew : ∀ id b, C1.box id = some b → hasN bids id = true → hasN ids id = true := fun id b hb hh => by
    rcases List.mem_append.1 (by rw [← hbids] at hh; exact hasN_mem.1 hh) with h | h
    · exact hasN_mem.2 h
    · have := hc1.boxSome id b hb
      rw [hsame.2.1, hisNone id (hasN_mem.2 h)] at this; cases this
  have same : ∀ i id b, ids[i]? = some id → C1.box id = some b → C'.box (1000000 + i) = some b := fun i id b hi hb => m'.inB _ b (bk1 i id b hi hb)
  let nbox : Nat → Option Nat := fun id => if hasN bids id = true then C'.box (1000000 + posN bids id) else C1.box id
  let C3 : Ctx := ⟨C'.Sh, C2.own, nbox⟩
  have nb1 : ∀ i id, bids[i]? = some id → nbox id = C'.box (1000000 + i) := fun i id hi => by
    have e : nbox id = (if hasN bids id = true then C'.box (1000000 + posN bids id) else C1.box id) := rfl
    rw [e, if_pos (hasN_mem.2 (List.mem_of_getElem? hi)), posN_at hbn hi]
  have nb2 : ∀ id, hasN bids id = false → nbox id = C1.box id := fun id hh => by
    have e : nbox id = (if hasN bids id = true then C'.box (1000000 + posN bids id) else C1.box id) := rfl
    rw [e, if_neg (by simp [hh])]
  have nb3 : ∀ id b, C1.box id = some b → nbox id = some b := fun id b hb => by
    cases e : hasN bids id with
    | false => rw [nb2 id e]; exact hb
    | true =>
      have e2 := noNew id b hb e
      rw [nb1 _ id (hbget _ id (posN_get e2))]
      exact same _ id b (posN_get e2) hb
  have hSz : w.heap.size ≤ w'.heap.size := m'.size
  have mineCases : ∀ b, (Ent.lent w C0 own0 0 hbig htab hsh0).mine b → w.heap.size ≤ b ∨ own0 b := fun b hb => hb
  have hKept : ∀ b, b < w.heap.size → ¬ own0 b → w'.heap[b]? = w.heap[b]? := fun b h1 h2 => m'.kept b h1 h2
  have shCases : ∀ b, C'.Sh b → C1.Sh b ∨ w.heap.size ≤ b ∨ own0 b := fun b hb => (m'.shFrom b hb).imp id (mineCases b)
  have mineX : ∀ b, w.heap.size ≤ b ∨ own0 b → X.mine b := fun b hb => hb.elim (fun h => .inl (Nat.le_trans m.size h)) (tMine b)
  have oldBoxSh : ∀ id b, C1.box id = some b → C'.Sh b → False := fun id b hb hs => by
    rcases shCases b hs with h | h | h
    · exact m.boxSh id b hb h
    · have := m.boxIn id b hb; omega
    · have e := tBox b id h hb
      exact m'.boxSh _ b (same _ id b (posN_get e) hb) hs
  have m3 : MemOk X st2.frz C3 w' :=
    { shIn := m'.shIn, shFrom := fun b hb => (shCases b hb).elim (m.shFrom b) fun h => .inr (mineX b h), shOld := fun b hb => m'.shOld b (m.shOld b hb),
      ownIn := fun g b base hg => Nat.lt_of_lt_of_le (m2.ownIn g b base hg) hSz, ownOne := m2.ownOne,
      ownBox := fun g b base id hg hf hb => by
        cases e : hasN bids id with
        | false => rw [show C3.box id = _ from nb2 id e, ← bx2] at hb; exact m2.ownBox g b base id hg hf hb
        | true =>
          rw [show C3.box id = _ from nb1 _ id (posN_get e)] at hb
          rcases mineCases b (m'.boxMine _ b hb) with h | h
          · have := m2.ownIn g b base hg; omega
          · exact noT g b base hg h
      ownSh := fun g b base hg hf hs => by
        rcases shCases b hs with h | h | h
        · exact m2.ownSh g b base hg hf (by rw [sh2]; exact h)
        · have := m2.ownIn g b base hg; omega
        · exact noT g b base hg h
      ownFrz := fun g b base hg hf => m'.shOld b (by have := m2.ownFrz g b base hg hf; rw [sh2] at this; exact this),
      ownMine := m2.ownMine,
      boxIn := fun id b hb => by
        cases e : hasN bids id with
        | false => rw [show C3.box id = _ from nb2 id e] at hb; exact Nat.lt_of_lt_of_le (m.boxIn id b hb) hSz
        | true => rw [show C3.box id = _ from nb1 _ id (posN_get e)] at hb; exact m'.boxIn _ b hb
      boxOne := fun id id' b hb hb' => by
        have mix : ∀ id id', hasN bids id = true → hasN bids id' = false → C3.box id = some b → C3.box id' = some b → False := fun id id' e e' hb hb' => by
          rw [show C3.box id = _ from nb1 _ id (posN_get e)] at hb
          rw [show C3.box id' = _ from nb2 id' e'] at hb'
          rcases mineCases b (m'.boxMine _ b hb) with h | h
          · have := m.boxIn id' b hb'; omega
          · have := tBox b id' h hb'
            have : hasN bids id' = true := by rw [← hbids]; exact hasN_mem.2 (List.mem_append_left _ (hasN_mem.1 this))
            rw [e'] at this; cases this
        cases e : hasN bids id <;> cases e' : hasN bids id'
        · rw [show C3.box id = _ from nb2 id e] at hb
          rw [show C3.box id' = _ from nb2 id' e'] at hb'
          exact m.boxOne id id' b hb hb'
        · exact (mix id' id e' e hb' hb).elim
        · exact (mix id id' e e' hb hb').elim
        · rw [show C3.box id = _ from nb1 _ id (posN_get e)] at hb
          rw [show C3.box id' = _ from nb1 _ id' (posN_get e')] at hb'
          have := m'.boxOne _ _ b hb hb'
          have h1 := posN_get e
          have h2 := posN_get e'
          rw [show posN bids id = posN bids id' by omega, h2] at h1
          exact (Option.some.inj h1).symm
      boxSh := fun id b hb hs => by
        cases e : hasN bids id with
        | false => rw [show C3.box id = _ from nb2 id e] at hb; exact oldBoxSh id b hb hs
        | true => rw [show C3.box id = _ from nb1 _ id (posN_get e)] at hb; exact m'.boxSh _ b hb hs
      boxMine := fun id b hb => by
        cases e : hasN bids id with
        | false => rw [show C3.box id = _ from nb2 id e] at hb; exact m.boxMine id b hb
        | true => rw [show C3.box id = _ from nb1 _ id (posN_get e)] at hb; exact mineX b (mineCases b (m'.boxMine _ b hb))
      kept := fun b h1 h2 => by
        have hn : ¬ own0 b := fun h => (tMine b h).elim (fun h => by omega) h2
        rw [hKept b (Nat.lt_of_lt_of_le h1 m.size) hn]
        exact m.kept b h1 h2
      size := Nat.le_trans m.size hSz, os := m'.os.trans m.os, tape := m'.tape.trans m.tape, output := m'.output.trans m.output,
      inB := fun id b hb => nb3 id b (m.inB id b hb) }
  have t3 : C2.To w w' C3 := by
    refine ⟨fun b hb => ?_, fun id b hb => nb3 id b (by rw [← bx2]; exact hb), fun g => .inr (.inr ⟨rfl, fun b base hg => hKept b (m2.ownIn g b base hg) (noT g b base hg)⟩)⟩
    rw [sh2] at hb
    exact ⟨m'.shOld b hb, hKept b (m.shIn b hb) fun h => tSh b h hb⟩
  -- first the boxes' cells are looked at no more
  let bxU : Nat → Option (List AV) := fun id => if hasN bids id = true then (bs'[posN bids id]?).map (fun cs => cs.map fun _ => AV.undef) else st.bx id
  have hst2bx : st2.bx = st.bx := hkill.2.1.trans hsame.2.1
  have hc3 : Conc X { st2 with bx := bxU } C3 a w' := by
    refine hc2.turn t3 rfl m3 (fun id cs hid => ?_) (fun id b hid => ?_)
    · replace hid : (if hasN bids id = true then (bs'[posN bids id]?).map (fun cs => cs.map fun _ => AV.undef) else st.bx id) = some cs := hid
      split at hid
      · rename_i e
        obtain ⟨cs0, h1, rfl⟩ := Option.map_eq_some_iff.1 hid
        obtain ⟨b, c, e', lo, hi, g1, g2, g3, g4⟩ := hbx' _ cs0 h1
        exact ⟨b, c, e', lo, hi, (nb1 _ id (posN_get e)).trans g1, g2, g3, undefs_rep g4⟩
      · rename_i e
        have e : hasN bids id = false := by simpa using e
        obtain ⟨b, c, e', lo, hi, g1, g2, g3, g4⟩ := hc2.boxes id cs (by rw [hst2bx]; exact hid)
        rw [bx2] at g1
        have hno : ¬ own0 b := fun h => by
          have := tBox b id h g1
          have : hasN bids id = true := by rw [← hbids]; exact hasN_mem.2 (List.mem_append_left _ (hasN_mem.1 this))
          rw [e] at this; cases this
        exact ⟨b, c, e', lo, hi, (nb2 id e).trans g1, (hKept b (m.boxIn id b g1) hno).trans g2, g3, RepS.to t3 cs _ g4⟩
    · show (if hasN bids id = true then (bs'[posN bids id]?).map (fun cs => cs.map fun _ => AV.undef) else st.bx id).isSome = true
      split
      · rename_i e
        have := (List.getElem?_eq_some_iff.1 (posN_get e)).1
        rw [List.getElem?_eq_getElem (by omega)]
        rfl
      · rename_i e
        rw [show C3.box id = _ from nb2 id (by simpa using e)] at hid
        have := hc1.boxSome id b hid
        rw [hsame.2.1] at this
        exact this
  -- then the names
  have tnm : ∀ (i : Nat) (g : Stamp), gs[i]? = some g → st1.tname g = st.tname g := fun i g _ => by unfold St.tname; rw [hsame.2.2.2.2]
  have hc1' := hC
  have tgCons : ∀ g ∈ gs, st2.cons (st.tname g) = true ∧ (st.tname g).1 ≠ 1 := fun g hg => by
    obtain ⟨a1, a2, a3⟩ := hgl g hg
    unfold St.tname
    split
    · rename_i e
      obtain ⟨x, hx⟩ := Option.isSome_iff_exists.1 (hC.tgMade g.2 (a3 e))
      rw [hx]
      simp only [Option.getD_some]
      obtain ⟨c1, c2⟩ := hC.tg g.2 x hx
      exact ⟨(hkc x).2 (.inr (by rw [hsame.2.2.1]; exact c1)), c2⟩
    · rename_i e
      exact ⟨(hkc g).2 (.inl (List.mem_append_left _ hg)), e⟩
  have tgIn : ∀ g ∈ gs, ∀ g' ∈ gs, st.tname g = st.tname g' → g = g' := fun g hg g' hg' he => by
    obtain ⟨a1, a2, a3⟩ := hgl g hg
    obtain ⟨a1', a2', a3'⟩ := hgl g' hg'
    obtain ⟨g1, g2⟩ := g
    obtain ⟨g1', g2'⟩ := g'
    unfold St.tname at he
    simp only at he a3 a3'
    by_cases e : g1 = 1 <;> by_cases e' : g1' = 1
    · subst e; subst e'
      obtain ⟨x, hx⟩ := Option.isSome_iff_exists.1 (hC.tgMade g2 (a3 rfl))
      obtain ⟨x', hx'⟩ := Option.isSome_iff_exists.1 (hC.tgMade g2' (a3' rfl))
      simp only [if_true, hx, hx', Option.getD_some] at he
      subst he
      rw [hC.tgInj g2 g2' x a1 a1' hx hx']
    · subst e
      obtain ⟨x, hx⟩ := Option.isSome_iff_exists.1 (hC.tgMade g2 (a3 rfl))
      rw [if_pos rfl, if_neg e', hx] at he
      simp only [Option.getD_some] at he
      have := (hC.tg g2 x hx).1
      rw [he, a1'] at this; cases this
    · subst e'
      obtain ⟨x', hx'⟩ := Option.isSome_iff_exists.1 (hC.tgMade g2' (a3' rfl))
      rw [if_neg e, if_pos rfl, hx'] at he
      simp only [Option.getD_some] at he
      have := (hC.tg g2' x' hx').1
      rw [← he, a1] at this; cases this
    · rw [if_neg e, if_neg e'] at he
      exact he
  have tgNe : ∀ g ∈ gs, ∀ p ∈ ps, gs.length ≤ p → st.tname g = (0, nm kd p) → False := fun g hg p hp hle he => by
    obtain ⟨a1, a2, a3⟩ := hgl g hg
    obtain ⟨_, _, q⟩ := hpc p hp
    obtain ⟨q1, q2⟩ := q hle
    unfold St.tname at he
    split at he
    · rename_i e
      obtain ⟨x, hx⟩ := Option.isSome_iff_exists.1 (hC.tgMade g.2 (a3 e))
      rw [hx] at he
      simp only [Option.getD_some] at he
      have := (hC.tg g.2 x hx).1
      rw [he, q1] at this; cases this
    · rw [he] at hg; exact q2 hg
  have tgtCases : ∀ p, (∃ g ∈ gs, gs[p]? = some g ∧ tgt st gs kd p = st.tname g) ∨ (gs.length ≤ p ∧ tgt st gs kd p = (0, nm kd p)) := fun p => by
    unfold tgt
    cases e : gs[p]? with
    | some g => exact .inl ⟨g, List.mem_of_getElem? e, rfl, rfl⟩
    | none => exact .inr ⟨List.getElem?_eq_none_iff.1 e, rfl⟩
  have hl3 : ∀ t ∈ (ps.map fun p => ((nm kd p, C'.own (3, p), tgt st gs kd p) : Nat × Own × Stamp)), ∃ p ∈ ps, t = (nm kd p, C'.own (3, p), tgt st gs kd p) := fun t ht => by
    obtain ⟨p, hp, rfl⟩ := List.mem_map.1 ht
    exact ⟨p, hp, rfl⟩
  obtain ⟨C4, hc4, t4, sh4, bx4, ow4, keep4⟩ := hc3.newsT (ps.map fun p => (nm kd p, C'.own (3, p), tgt st gs kd p))
    (by
      rw [List.map_map]
      exact List.Pairwise.map _ (fun a b hab h => hab (nm_inj h)) hpn)
    (fun t ht => by
      obtain ⟨p, hp, rfl⟩ := hl3 t ht
      obtain ⟨q1, q2, q3⟩ := hpc p hp
      refine ⟨by show st2.made _ = _; rw [hkill.2.2.2.1, hsame.2.2.2.1]; exact q1, by show st2.frz _ = _; rw [hkill.2.2.1]; exact q2, hdd _, ?_, ?_, ?_⟩
      · rcases tgtCases p with ⟨g, hg, _, e⟩ | ⟨hle, e⟩
        · show st2.cons (tgt st gs kd p) = true
          rw [e]; exact (tgCons g hg).1
        · show st2.cons (tgt st gs kd p) = true
          rw [e]; exact (hkc _).2 (.inl (List.mem_append_right _ ((hksm _).2 ⟨p, hp, hle, rfl⟩)))
      · rcases tgtCases p with ⟨g, hg, _, e⟩ | ⟨hle, e⟩
        · show (tgt st gs kd p).1 ≠ 1
          rw [e]; exact (tgCons g hg).2
        · show (tgt st gs kd p).1 ≠ 1
          rw [e]; simp
      · intro k hk hres
        have hres : st.res k = some (tgt st gs kd p) := by
          have h1 : st2.res k = some (tgt st gs kd p) := hres
          rwa [hkill.2.2.2.2, hsame.2.2.2.2] at h1
        have hk : st2.cons (1, k) = false := hk
        have hk1 : st.cons (1, k) = false := by
          cases e : st.cons (1, k) with
          | false => rfl
          | true => rw [(hkc (1, k)).2 (.inr (by rw [hsame.2.2.1]; exact e))] at hk; cases hk
        rcases tgtCases p with ⟨g, hg, _, e⟩ | ⟨hle, e⟩
        · rw [e] at hres
          obtain ⟨a1, a2, a3⟩ := hgl g hg
          obtain ⟨g1, g2⟩ := g
          unfold St.tname at hres
          simp only at hres a3
          by_cases eg : g1 = 1
          · subst eg
            obtain ⟨x, hx⟩ := Option.isSome_iff_exists.1 (hC.tgMade g2 (a3 rfl))
            rw [if_pos rfl, hx] at hres
            simp only [Option.getD_some] at hres
            have := hC.tgInj k g2 x hk1 a1 hres hx
            subst this
            rw [(hkc (1, k)).2 (.inl (List.mem_append_left _ hg))] at hk; cases hk
          · rw [if_neg eg] at hres
            have := (hC.tg k _ hres).1
            rw [a1] at this; cases this
        · rw [e] at hres
          have := (hC.tg k _ hres).1
          rw [(q3 hle).1] at this; cases this)
    (fun t ht b base hb => by
      obtain ⟨p, hp, rfl⟩ := hl3 t ht
      have hb : C'.own (3, p) = .live b base := hb
      refine ⟨m'.ownIn _ _ _ hb, mineX b (mineCases b (m'.ownMine _ _ _ hb rfl)), m'.ownSh _ _ _ hb rfl, fun id hid => ?_, fun g bs hg => ?_⟩
      · cases e : hasN bids id with
        | false =>
          rw [show C3.box id = _ from nb2 id e] at hid
          rcases mineCases b (m'.ownMine _ _ _ hb rfl) with h | h
          · have := m.boxIn id b hid; omega
          · have := tBox b id h hid
            have : hasN bids id = true := by rw [← hbids]; exact hasN_mem.2 (List.mem_append_left _ (hasN_mem.1 this))
            rw [e] at this; cases this
        | true =>
          rw [show C3.box id = _ from nb1 _ id (posN_get e)] at hid
          exact m'.ownBox _ b base _ hb rfl hid
      · have hg : C2.own g = .live b bs := hg
        rcases mineCases b (m'.ownMine _ _ _ hb rfl) with h | h
        · have := m2.ownIn g b bs hg; omega
        · exact noT g b bs hg h)
    (fun t ht t' ht' b base base' hb hb' => by
      obtain ⟨p, hp, rfl⟩ := hl3 t ht
      obtain ⟨p', hp', rfl⟩ := hl3 t' ht'
      have := m'.ownOne _ _ _ _ _ hb hb' rfl
      simp only [Prod.mk.injEq, true_and] at this
      rw [this])
    (fun t ht t' ht' he => by
      obtain ⟨p, hp, rfl⟩ := hl3 t ht
      obtain ⟨p', hp', rfl⟩ := hl3 t' ht'
      have he : tgt st gs kd p = tgt st gs kd p' := he
      show nm kd p = nm kd p'
      rcases tgtCases p with ⟨g, hg, i1, e⟩ | ⟨hle, e⟩ <;> rcases tgtCases p' with ⟨g', hg', i2, e'⟩ | ⟨hle', e'⟩
      · rw [e, e'] at he
        have := tgIn g hg g' hg' he
        subst this
        have hi := (List.getElem?_eq_some_iff.1 i1).1
        rw [(List.getElem?_inj hi hnd).1 (i1.trans i2.symm)]
      · rw [e, e'] at he
        exact (tgNe g hg p' hp' hle' he).elim
      · rw [e, e'] at he
        exact (tgNe g' hg' p hp hle he.symm).elim
      · rw [e, e'] at he
        simpa using he)
  have hE2 : ((fun t : Nat × Own × Stamp => (t.1, t.2.2)) ∘ fun p => (nm kd p, C'.own (3, p), tgt st gs kd p)) = fun p => (nm kd p, tgt st gs kd p) := rfl
  rw [List.map_map, hE2] at hc4
  have hnw := newsT_same (ps.map fun p => (nm kd p, tgt st gs kd p)) ({ st2 with bx := bxU } : St)
  have hnw' := newsT_same (ps.map fun p => (nm kd p, tgt st gs kd p)) st2
  have ow4' : ∀ p ∈ ps, C4.own (1, nm kd p) = C'.own (3, p) := fun p hp => ow4 (nm kd p, C'.own (3, p), tgt st gs kd p) (List.mem_map.2 ⟨p, hp, rfl⟩)
  have hback : ∀ id b, 1000000 ≤ id → id < 1000000 + bs'.length → C'.box id = some b → C4.box (bids.getD (id - 1000000) 0) = some b := fun id b h1 h2 hb => by
    have hlt : id - 1000000 < bids.length := by omega
    rw [bx4, List.getD_eq_getElem?_getD, List.getElem?_eq_getElem hlt, Option.getD_some]
    rw [show C3.box _ = _ from nb1 (id - 1000000) _ (List.getElem?_eq_getElem hlt), show 1000000 + (id - 1000000) = id by omega]
    exact hb
  -- last what the boxes hold
  obtain ⟨sb1, sb2⟩ := setBs_get (kd := kd) (bids := bids) bids bs' st.bx hbn hbl
  have hc5 := hc4.turn (C' := C4) (w' := w') (bx' := setBs kd bids bids bs' st.bx) ⟨fun _ hb => ⟨hb, rfl⟩, fun _ _ hb => hb, fun _ => .inr (.inr ⟨rfl, fun _ _ _ => rfl⟩)⟩ rfl hc4.mem
    (fun id cs hid => by
      cases e : hasN bids id with
      | false =>
        rw [sb2 id e] at hid
        exact hc4.boxes id cs (by
          refine (congrFun hnw.2.1 id).trans ?_
          show (if hasN bids id = true then (bs'[posN bids id]?).map (fun cs => cs.map fun _ => AV.undef) else st.bx id) = some cs
          rw [if_neg (by simp [e])]
          exact hid)
      | true =>
        have hp := posN_get e
        have hlt := (List.getElem?_eq_some_iff.1 hp).1
        have hcs : bs'[posN bids id]? = some bs'[posN bids id] := List.getElem?_eq_getElem (by omega)
        rw [sb1 _ id _ hp hcs] at hid
        cases hid
        obtain ⟨b, c, e', lo, hi, g1, g2, g3, g4⟩ := hbx' _ _ hcs
        refine ⟨b, c, e', lo, hi, by rw [bx4]; exact (nb1 _ id hp).trans g1, g2, g3, RepS.back (C := C') (m := bs'.length) sh4 hdd hback _ _ (ansBLL_get r4 _ _ hcs) (fun p hpp => ow4' p ?_) g4⟩
        rw [← hps]
        exact List.mem_append_left _ (posLL_get _ _ hcs p hpp))
    (fun id b hid => by
      cases e : hasN bids id with
      | false =>
        rw [sb2 id e]
        have := hc4.boxSome id b hid
        rw [congrFun hnw.2.1 id] at this
        replace this : (if hasN bids id = true then (bs'[posN bids id]?).map (fun cs => cs.map fun _ => AV.undef) else st.bx id).isSome = true := this
        rw [if_neg (by simp [e])] at this
        exact this
      | true =>
        have hp := posN_get e
        have hlt := (List.getElem?_eq_some_iff.1 hp).1
        rw [sb1 _ id _ hp (List.getElem?_eq_getElem (by omega))]
        rfl)
  have hrv : Rep w' C4 (backA kd bids r) v := Rep.back (C := C') (m := bs'.length) sh4 hdd hback r v r3 (fun p hpp => ow4' p (by rw [← hps]; exact List.mem_append_right _ hpp)) hr
  have hfin := hc5.putO hd hrv
  refine hK C4 _ _ ?_
  have hE : ({ ({ st2 with bx := bxU } : St).newsT (ps.map fun p => (nm kd p, tgt st gs kd p)) with bx := setBs kd bids bids bs' st.bx } : St) = { st2.newsT (ps.map fun p => (nm kd p, tgt st gs kd p)) with bx := setBs kd bids bids bs' st.bx } := newsT_bx _ _ _ _
  rw [hE] at hfin
  exact hfin
end Go.VS
