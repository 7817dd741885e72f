/- Part of a framework that states what Go functions answer on values as data; it holds for every program of the model. -/
import Derived.Test.YtfemncfhiihckaaDoorVsEval3
namespace Go.VS
set_option linter.unusedVariables false
set_option linter.unusedSimpArgs false
set_option linter.unusedSectionVars false
open Go
variable {P : Program}
def isEff (P : Program) (ops : Array Oper) (i : Nat) : Bool :=
  match ops[i]? with
  | some o => !quiet P o || (isLoad o && (List.range ops.size).any fun j => (match ops[j]? with | some s => isStore s | none => false) && !((masks ops).getD j 0).testBit i)
  | none => false
def effL (P : Program) (ops : Array Oper) (is : List Nat) : List Nat := is.filter (isEff P ops)
/-- It calls nothing. -/
def noCall (o : Oper) : Bool :=
  match o.op with
  | .call c =>
    match c.callee with
    | .value _ => false
    | _ => true
  | _ => true
/-- A store into a variable in memory, by a slot of which that is known. -/
def boxStore (ptrs : List Nat) (o : Oper) : Bool :=
  match o.op, o.dst with
  | .store _ (.tmp a) _, none => ptrs.contains a
  | _, _ => false
def isP : AV → Bool
  | .ptr .. => true
  | _ => false
/-- The slots that hold variables' places hold them all along. -/
def ptrsOk (ptrs : List Nat) (ops : Array Oper) : Bool :=
  ptrs.isEmpty || ops.toList.all fun o => !isBox o && (!isStore o || boxStore ptrs o) && ptrs.all fun a => o.dst != some a
/-- A store that is done in any case. -/
def plainStore (o : Oper) : Bool :=
  match o.op, o.dst, o.guard with
  | .store .., none, none => true
  | _, _, _ => false
/-- It hands a value on, and looks at nothing that a store turns. -/
def tame (o : Oper) : Bool :=
  match o.op with
  | .move _ => true
  | .assign _ => true
  | .pick .. => true
  | .nilCheck _ => true
  | .fieldAddr .. => true
  | _ => false
def comm3 (P : Program) (ptrs : List Nat) (ops : Array Oper) (i j : Oper) : Bool :=
  comm P ops i j || (i.apart ops j && quiet P j && !isLoad j && boxStore ptrs i) || (i.apart ops j && quiet P j && tame j && plainStore i)
/-- i may stand ahead of j: it must, or they may change places, or the orders tell, or something ahead of j that does more than give a value needs it. -/
def pairOk2 (P : Program) (ptrs : List Nat) (ops : Array Oper) (A es : List Nat) (i j : Nat) : Bool :=
  match ops[i]?, ops[j]? with
  | some oi, some oj => !(dirs oi).contains j && ((A.getD j 0).testBit i || comm3 P ptrs ops oi oj || (isEff P ops i && isEff P ops j) ||
      (isEff P ops j && (es.takeWhile fun e => e != j).any fun e => (A.getD e 0).testBit i))
  | _, _ => false
def pairsOk2 (P : Program) (ptrs : List Nat) (ops : Array Oper) (A es : List Nat) : List Nat → Bool
  | [] => true
  | i :: r => r.all (pairOk2 P ptrs ops A es i) && pairsOk2 P ptrs ops A es r
/-- All orders of some that a table lets in. -/
def extsN (A : List Nat) : Nat → List Nat → List (List Nat)
  | 0, _ => [[]]
  | n + 1, l => (l.filter fun e => l.all fun x => x == e || !((A.getD e 0).testBit x)).flatMap fun j => (extsN A n (l.erase j)).map (j :: ·)
def pairwiseB (A : List Nat) : List Nat → Bool
  | [] => true
  | a :: r => (r.all fun b => !(A.getD a 0).testBit b) && pairwiseB A r
/-- Each order of what does more than give a value is among them. -/
def covers (P : Program) (ops : Array Oper) (A : List Nat) (iss : List (List Nat)) : Bool :=
  let E := effL P ops (List.range ops.size)
  (extsN A E.length E).all fun es => iss.any fun is => effL P ops is == es
def oneOk (P : Program) (ptrs : List Nat) (ops : Array Oper) (A is : List Nat) : Bool :=
  decide (is.length = ops.size) && is.all (fun k => decide (k < ops.size)) && decide is.Nodup && (List.range ops.size).all (fun k => is.contains k) && pairsOk2 P ptrs ops A (effL P ops is) is
/-- A call's answer is one: what else is to come then has one order. -/
def callOne (ops : Array Oper) (A E : List Nat) (k : Nat) : Bool :=
  match ops[k]? with
  | some o => noCall o || E.all fun a => E.all fun b => a == b || a == k || b == k || (A.getD k 0).testBit a || (A.getD k 0).testBit b || (A.getD a 0).testBit b || (A.getD b 0).testBit a
  | none => true
def ordersOk (P : Program) (ptrs : List Nat) (ops : Array Oper) (A : List Nat) (iss : List (List Nat)) : Bool :=
  ptrsOk ptrs ops && iss.all (oneOk P ptrs ops A) && covers P ops A iss && tabOk ops A && (List.range ops.size).all (callOne ops A (effL P ops (List.range ops.size))) && decide ((effL P ops (iss.headD [])).Nodup) && pairwiseB A (effL P ops (iss.headD [])) && !iss.isEmpty &&
  (List.range ops.size).all fun k =>
    match ops[k]? with
    | some o => (dirs o).all fun d => decide (d < ops.size) && d != k
    | none => false
theorem extsN_mem {A : List Nat} : ∀ (n : Nat) (l es : List Nat), es.length = n → es.Nodup → l.Nodup → (∀ k, k ∈ l ↔ k ∈ es) → (es.Pairwise fun a b => (A.getD a 0).testBit b = false) → es ∈ extsN A n l
  | 0, l, es, h, _, _, _, _ => by
    have : es = [] := List.length_eq_zero_iff.1 h
    simp [this, extsN]
  | n + 1, l, [], h, _, _, _, _ => by simp at h
  | n + 1, l, j :: es, h, hnd, hl, hm, hp => by
    rw [List.nodup_cons] at hnd
    rw [List.pairwise_cons] at hp
    simp only [extsN, List.mem_flatMap, List.mem_map]
    refine ⟨j, List.mem_filter.2 ⟨(hm j).2 (by simp), List.all_eq_true.2 fun x hx => ?_⟩, es, extsN_mem n _ es (by simpa using h) hnd.2 (hl.erase j) (fun k => ?_) hp.2, rfl⟩
    · rcases List.mem_cons.1 ((hm x).1 hx) with rfl | h'
      · simp
      · rw [hp.1 x h', Bool.not_false, Bool.or_true]
    · rw [hl.mem_erase_iff, hm k, List.mem_cons]
      constructor
      · rintro ⟨h1, rfl | h2⟩
        · exact (h1 rfl).elim
        · exact h2
      · intro h1
        exact ⟨fun e => hnd.1 (by rw [← e]; exact h1), .inr h1⟩
theorem nodup_len : ∀ (es E : List Nat), es.Nodup → (∀ k ∈ es, k ∈ E) → es.length ≤ E.length
  | [], E, _, _ => by simp
  | a :: es, E, hn, hm => by
    rw [List.nodup_cons] at hn
    have ha := hm a (by simp)
    have := nodup_len es (E.erase a) hn.2 fun k hk => (List.mem_erase_of_ne (fun e => hn.1 (by rw [← e]; exact hk))).2 (hm k (by simp [hk]))
    rw [List.length_erase_of_mem ha] at this
    have : 0 < E.length := List.length_pos_of_mem ha
    simp only [List.length_cons]
    omega
theorem pairwiseB_iff {A : List Nat} : ∀ (es : List Nat), pairwiseB A es = true ↔ es.Pairwise fun a b => (A.getD a 0).testBit b = false
  | [] => by simp [pairwiseB]
  | a :: r => by
    simp only [pairwiseB, Bool.and_eq_true, List.all_eq_true, Bool.not_eq_true', List.pairwise_cons, pairwiseB_iff r]
/-- What is still to come of what does more than give a value, in an order. -/
structure Lin (P : Program) (ops : Array Oper) (A : List Nat) (listed : Array Bool) (es : List Nat) : Prop where
  nodup : es.Nodup
  mem : ∀ k, k ∈ es ↔ (k < ops.size ∧ isEff P ops k = true ∧ listed.getD k false = false)
  ord : es.Pairwise fun a b => (A.getD a 0).testBit b = false
def Good (P : Program) (ptrs : List Nat) (n : Nat) (ops : Array Oper) (A : List Nat) (K : St → Prop) (f : Nat) (listed : Array Bool) (st : St) (es : List Nat) : Prop :=
  ∃ is done, is.length = f ∧ is.Nodup ∧ (∀ k, k < ops.size → (k ∈ is ↔ listed.getD k false = false)) ∧ (∀ k ∈ is, k < ops.size) ∧ pairsOk2 P ptrs ops A (done ++ es) is = true ∧ effL P ops is = es ∧ vidx P n ops is st K ∧
    (∀ e ∈ done, e < ops.size ∧ listed.getD e false = true)
theorem vop_bstore {ptrs : List Nat} {n : Nat} {st : St} {o : Oper} {K : St → Prop} (hb : boxStore ptrs o = true) (hp : ∀ a ∈ ptrs, isP (st.s a) = true) :
    vop P n st o K ↔ ∃ r, storeBox P st o = some r ∧ K { st with bx := upd st.bx r.1 (some r.2) } := by
  unfold boxStore at hb
  split at hb
  · rename_i T a x ho hd
    have ha := hp a (by simpa using hb)
    unfold vop vstep
    simp only [ho, hd]
    have hev : st.ev P 0 (.tmp a) = st.s a := rfl
    rw [hev]
    cases hs : st.s a with
    | ptr id off =>
      simp only
      cases hsb : storeBox P st o with
      | none => simp
      | some r => simp
    | _ => rw [hs] at ha; cases ha
  · cases hb
/-- Nothing but what variables hold has turned. -/
structure SameS (st s : St) : Prop where
  sl : s.s = st.s
  cn : s.cons = st.cons
theorem bstore_same {ptrs : List Nat} {n : Nat} {ops : Array Oper} {st : St} {o : Oper} {K : St → Prop} (hb : boxStore ptrs o = true) (hp : ∀ a ∈ ptrs, isP (st.s a) = true) (h : vguard n ops st o (vop P n st o) K) :
    vguard n ops st o (vop P n st o) (fun s => SameS st s ∧ K s) ∧ ∃ s, SameS st s ∧ K s := by
  have hd : o.dst = none := by
    unfold boxStore at hb
    split at hb
    · assumption
    · cases hb
  have hv : vop P n st o K → vop P n st o (fun s => SameS st s ∧ K s) ∧ ∃ s, SameS st s ∧ K s := by
    intro h
    obtain ⟨r, h1, h2⟩ := (vop_bstore hb hp).1 h
    exact ⟨(vop_bstore hb hp).2 ⟨r, h1, ⟨rfl, rfl⟩, h2⟩, { st with bx := upd st.bx r.1 (some r.2) }, ⟨rfl, rfl⟩, h2⟩
  have hs : ∀ v, SameS st (st.putO o.dst v) := fun v => by rw [hd]; exact ⟨rfl, rfl⟩
  unfold vguard at h ⊢
  split at h
  · exact hv h
  · split at h
    · split at h
      · rename_i j want hg _ g hgd _ b hb'
        refine ⟨⟨fun e => (hv (h.1 e)).1, fun e => ⟨(h.2 e).1, hs _, (h.2 e).2⟩⟩, ?_⟩
        by_cases e : b = want
        · exact (hv (h.1 e)).2
        · exact ⟨_, hs _, (h.2 e).2⟩
      · exact ⟨⟨h.1, hs _, h.2⟩, _, hs _, h.2⟩
      · exact h.elim
    · exact h.elim
theorem bstore_putO {ptrs : List Nat} {n : Nat} {ops : Array Oper} {st : St} {o : Oper} {d : Option Nat} {v : AV} (hb : boxStore ptrs o = true) (hp : ∀ a ∈ ptrs, isP (st.s a) = true) (hl : ∀ k, d = some k → k ∉ o.looksAt ops)
    {K K' : St → Prop} (hk : ∀ s, K s → K' (s.putO d v)) (h : vguard n ops st o (vop P n st o) K) : vguard n ops (st.putO d v) o (vop P n (st.putO d v) o) K' := by
  cases d with
  | none => exact vguard_mono hk h
  | some d =>
    have hl := hl d rfl
    have hd : o.dst = none := by
      unfold boxStore at hb
      split at hb
      · assumption
      · cases hb
    have ha : ∀ x ∈ o.op.operands.toList, x ≠ .tmp d := by
      rintro x hx rfl
      exact hl (List.mem_append.2 (.inl (List.mem_filterMap.2 ⟨_, hx, rfl⟩)))
    have hvop : ∀ {K : St → Prop}, (∀ s, K s → K' (s.put d v)) → vop P n st o K → vop P n (st.put d v) o K' := by
      intro K hk h
      obtain ⟨r, h1, h2⟩ := (vop_bstore hb hp).1 h
      unfold boxStore at hb
      split at hb
      · rename_i T a x ho hdst
        have had : a ≠ d := fun e => ha (.tmp a) (by rw [ho]; simp [Op.operands]) (by rw [e])
        have hpa := hp a (by simpa using hb)
        unfold vop vstep
        simp only [ho, hdst]
        have hev : (st.put d v).ev P 0 (.tmp a) = st.s a := upd_ne _ _ had
        rw [hev]
        cases hs : st.s a with
        | ptr id off =>
          simp only
          rw [storeBox_put ha, h1]
          exact hk _ h2
        | _ => rw [hs] at hpa; cases hpa
      · cases hb
    unfold vguard at h ⊢
    split at h
    · exact hvop hk h
    · rename_i j want hg
      split at h
      · rename_i g hgd
        have hgne : g ≠ d := by
          rintro rfl
          exact hl (by unfold Oper.looksAt; rw [hg]; simp [hgd])
        simp only [St.putO, St.put, upd_ne _ _ hgne, hd] at h ⊢
        split at h
        · exact ⟨fun e => hvop hk (h.1 e), fun e => ⟨(h.2 e).1, hk _ (h.2 e).2⟩⟩
        · exact ⟨h.1, hk _ h.2⟩
        · exact h.elim
      · exact h.elim
theorem jres_same {ops : Array Oper} {st s : St} {j : Oper} (hl : isLoad j = false) (he : SameS st s) {v : AV} (h : jres P ops s j = some v) : jres P ops st j = some v := by
  have hpv : ∀ v, pv P s j = some v → pv P st j = some v := by
    intro v hv
    refine pv_mono (fun g hg => by rw [he.cn]; exact hg) (fun T x _ => ev_agree fun t _ => by rw [he.sl]) (fun hl' => by rw [hl] at hl'; cases hl') hv
  unfold jres at h ⊢
  split
  · rename_i hg
    rw [hg] at h
    exact hpv v h
  · rename_i g want hg
    rw [hg] at h
    simp only at h
    split at h
    · rename_i t ht
      rw [he.sl] at h
      split at h
      · split at h
        · rename_i e; simp only [if_pos e]; exact hpv v h
        · rename_i e; simp only [if_neg e]; exact h
      · exact h
      · cases h
    · cases h
theorem setA_ev (g : Stamp) (sz k : Nat) (e : AV) (st : St) (T : TypeId) (x : Operand) : (st.setE g sz k e).ev P T x = setA g sz k e (st.ev P T x) := by
  cases x with
  | tmp t => rfl
  | const v =>
    show constAV P T v = setA g sz k e (constAV P T v)
    unfold constAV
    split <;> first | rfl | simp [setA]
  | func f => rfl
  | global gl =>
    show (match tabLook gl with | some cs => AV.eptr none cs.length [.agg cs] 0 0 | none => .undef) = setA g sz k e (match tabLook gl with | some cs => AV.eptr none cs.length [.agg cs] 0 0 | none => .undef)
    split <;> rfl
theorem setA_bool {g : Stamp} {sz k : Nat} {e x : AV} {b : Bool} (h : setA g sz k e x = .bool b) : x = .bool b := by
  unfold setA at h
  split at h
  · split at h
    · split at h <;> cases h
    · cases h
  · split at h
    · split at h <;> cases h
    · cases h
  all_goals first | exact h | cases h
theorem setA_ptr {g : Stamp} {sz k : Nat} {e x : AV} {id off : Nat} (h : setA g sz k e x = .ptr id off) : x = .ptr id off := by
  unfold setA at h
  split at h
  · split at h
    · split at h <;> cases h
    · cases h
  · split at h
    · split at h <;> cases h
    · cases h
  all_goals first | exact h | cases h
theorem setA_fn {g : Stamp} {sz k : Nat} {e x : AV} {f : FuncId} {cap : List AV} (h : setA g sz k e x = .fn f cap) : ∃ cap0, x = .fn f cap0 := by
  unfold setA at h
  split at h
  · split at h
    · split at h <;> cases h
    · cases h
  · split at h
    · split at h <;> cases h
    · cases h
  all_goals first | (cases h; exact ⟨_, rfl⟩) | cases h | exact ⟨_, h⟩
theorem setA_eptr {g : Stamp} {sz k : Nat} {e x : AV} {o : Option (Stamp × Nat)} {sz' : Nat} {l : List AV} {i off : Nat} (h : setA g sz k e x = .eptr o sz' l i off) : ∃ l0, x = .eptr o sz' l0 i off ∧ ∀ off', setA g sz k e (.eptr o sz' l0 i off') = .eptr o sz' l i off' := by
  cases x with
  | eptr o1 sz1 l1 i1 off1 =>
    cases o1 with
    | none =>
      simp only [setA] at h
      cases h
      exact ⟨_, rfl, fun _ => rfl⟩
    | some p =>
      obtain ⟨h1, eo⟩ := p
      simp only [setA] at h
      split at h
      · rename_i e1
        split at h
        · rename_i e2
          cases h
          exact ⟨l1, rfl, fun off' => by simp only [setA, if_pos e1, if_pos e2]⟩
        · cases h
      · rename_i e1
        cases h
        exact ⟨_, rfl, fun off' => by simp only [setA, if_neg e1]⟩
  | sl o1 nb sz1 l1 =>
    cases o1 with
    | none => simp only [setA] at h; cases h
    | some p => simp only [setA] at h; split at h <;> first | cases h | (split at h <;> cases h)
  | _ => simp only [setA] at h; cases h
theorem setA_tup0 {g : Stamp} {sz k : Nat} {e x : AV} (h : setA g sz k e x = .tup []) : x = .tup [] := by
  cases x with
  | tup cs =>
    cases cs with
    | nil => rfl
    | cons c cs => simp only [setA, setL] at h; cases h
  | sl o1 nb sz1 l1 =>
    cases o1 with
    | none => simp only [setA] at h; cases h
    | some p => simp only [setA] at h; split at h <;> first | cases h | (split at h <;> cases h)
  | eptr o1 sz1 l1 i1 off1 =>
    cases o1 with
    | none => simp only [setA] at h; cases h
    | some p => simp only [setA] at h; split at h <;> first | cases h | (split at h <;> cases h)
  | _ => simp only [setA] at h; cases h
theorem setA_pick (g : Stamp) (sz k : Nat) (e : AV) (c : Bool) (a b : AV) : pickAV c (setA g sz k e a) (setA g sz k e b) = setA g sz k e (pickAV c a b) := by
  by_cases h : (∃ x, a = .bool x) ∧ ∃ y, b = .bool y
  · obtain ⟨⟨x, rfl⟩, y, rfl⟩ := h
    rfl
  · have h1 : ∀ (a b : AV), ¬ ((∃ x, a = .bool x) ∧ ∃ y, b = .bool y) → pickAV c a b = bif c then a else b := by
      intro a b h
      unfold pickAV
      split
      · exact (h ⟨⟨_, rfl⟩, _, rfl⟩).elim
      · rfl
    rw [h1 a b h, h1 _ _ fun ⟨⟨x, hx⟩, y, hy⟩ => h ⟨⟨x, setA_bool hx⟩, y, setA_bool hy⟩]
    cases c <;> rfl
theorem pv_tame {g : Stamp} {sz k : Nat} {e : AV} {st : St} {o : Oper} {v' : AV} (ht : tame o = true) (h : pv P (st.setE g sz k e) o = some v') : ∃ v, pv P st o = some v ∧ setA g sz k e v = v' := by
  have hal : ∀ q, (st.setE g sz k e).alive q = st.alive q := fun q => by cases q <;> rfl
  unfold tame at ht
  unfold pv at h ⊢
  split at ht
  · rename_i x ho
    simp only [ho] at h ⊢
    rw [setA_ev] at h
    cases h
    exact ⟨_, rfl, rfl⟩
  · rename_i x ho
    simp only [ho] at h ⊢
    rw [setA_ev] at h
    cases h
    exact ⟨_, rfl, rfl⟩
  · rename_i c a b ho
    simp only [ho] at h ⊢
    rw [setA_ev, setA_ev, setA_ev] at h
    split at h
    · rename_i cb hc
      rw [setA_bool hc]
      cases h
      exact ⟨_, rfl, (setA_pick g sz k e cb _ _).symm⟩
    · cases h
  · rename_i x ho
    simp only [ho] at h ⊢
    rw [setA_ev] at h
    split at h
    · rename_i id off hx
      rw [setA_ptr hx]
      cases h
      exact ⟨_, rfl, rfl⟩
    · rename_i q sz' l i off hx
      obtain ⟨l0, hx0, hs⟩ := setA_eptr hx
      obtain ⟨ha, h⟩ := need_some h
      cases h
      rw [hal] at ha
      rw [hx0]
      exact ⟨_, by simp only [need, if_pos ha], hs off⟩
    · rename_i f cap hx
      obtain ⟨cap0, hx0⟩ := setA_fn hx
      cases h
      rw [hx0] at hx ⊢
      exact ⟨_, rfl, hx⟩
    · cases h
  · rename_i S x f ho
    simp only [ho] at h ⊢
    rw [setA_ev] at h
    unfold pvFieldAddr at h ⊢
    split at h
    · rename_i fs hS
      split at h
      · rename_i fd hf
        obtain ⟨hc, h⟩ := need_some h
        split at h
        · rename_i id off hx
          rw [setA_ptr hx]
          cases h
          exact ⟨.ptr id (off + fd.offset), if_pos hc, rfl⟩
        · rename_i q sz' l i off hx
          obtain ⟨l0, hx0, hs⟩ := setA_eptr hx
          obtain ⟨ha, h⟩ := need_some h
          cases h
          rw [hal] at ha
          rw [hx0]
          exact ⟨.eptr q sz' l0 i (off + fd.offset), (if_pos hc).trans (if_pos ha), hs _⟩
        · cases h
      · cases h
    · cases h
  · cases ht
theorem jres_tame {ops : Array Oper} {g : Stamp} {sz k : Nat} {e : AV} {st : St} {o : Oper} {v' : AV} (ht : tame o = true) (h : jres P ops (st.setE g sz k e) o = some v') : ∃ v, jres P ops st o = some v ∧ setA g sz k e v = v' := by
  unfold jres at h ⊢
  split
  · rename_i hg
    rw [hg] at h
    exact pv_tame ht h
  · rename_i j want hg
    rw [hg] at h
    dsimp only at h
    split at h
    · rename_i t hj
      have hs : (st.setE g sz k e).s t = setA g sz k e (st.s t) := rfl
      split at h
      · rename_i b hb
        rw [hs] at hb
        rw [setA_bool hb]
        simp only
        split at h
        · rename_i e1
          rw [if_pos e1]
          exact pv_tame ht h
        · rename_i e1
          rw [if_neg e1]
          cases h
          exact ⟨_, rfl, rfl⟩
      · rename_i hb
        rw [hs] at hb
        rw [setA_tup0 hb]
        cases h
        exact ⟨_, rfl, rfl⟩
      · cases h
    · cases h
theorem storeEl_put {st s : St} {o : Oper} (h : storeEl P st o = some s) : ∃ g sz k e, s = st.setE g sz k e ∧ ∀ (d : Nat) (v : AV), (∀ x ∈ o.op.operands.toList, x ≠ .tmp d) → storeEl P (st.put d v) o = some (s.put d (setA g sz k e v)) := by
  unfold storeEl at h
  split at h
  · rename_i T a x ho
    have hput : ∀ (g : Stamp) (sz k : Nat) (e : AV) (d : Nat) (v : AV), (st.put d v).setE g sz k e = (st.setE g sz k e).put d (setA g sz k e v) := fun g sz k e d v => by
      unfold St.put St.setE
      congr 1
      funext t
      show setA g sz k e (upd st.s d v t) = upd (fun t => setA g sz k e (st.s t)) d (setA g sz k e v) t
      unfold upd
      split <;> rfl
    have hev : ∀ (d : Nat) (v : AV), (∀ x ∈ o.op.operands.toList, x ≠ .tmp d) → (st.put d v).ev P 0 a = st.ev P 0 a ∧ (st.put d v).ev P T x = st.ev P T x := fun d v hx => by
      rw [ho] at hx
      refine ⟨ev_agree fun t ht => upd_ne _ _ ?_, ev_agree fun t ht => upd_ne _ _ ?_⟩
      · rintro rfl; exact hx a (by simp [Op.operands]) ht
      · rintro rfl; exact hx x (by simp [Op.operands]) ht
    split at h
    · rename_i g eo sz l i off ha
      split at h
      · rename_i hT
        obtain ⟨hc, h⟩ := need_some h
        cases h
        refine ⟨g, sz, eo + i, _, rfl, fun d v hx => ?_⟩
        obtain ⟨e1, e2⟩ := hev d v hx
        unfold storeEl
        simp only [ho, e1, e2, ha]
        rw [if_pos hT, ← hput]
        exact if_pos hc
      · rename_i hT
        obtain ⟨el, hel, h⟩ := Option.bind_eq_some_iff.1 h
        obtain ⟨hc, h⟩ := need_some h
        cases h
        refine ⟨g, sz, eo + i, _, rfl, fun d v hx => ?_⟩
        obtain ⟨e1, e2⟩ := hev d v hx
        unfold storeEl
        simp only [ho, e1, e2, ha]
        rw [if_neg hT, ← hput]
        simp only [hel, Option.bind_some]
        exact if_pos hc
    · cases h
  · cases h
theorem swapSt {n : Nat} {ops : Array Oper} {st : St} {i j : Oper} {K : St → Prop} (ha : i.apart ops j = true) (hq : quiet P j = true) (ht : tame j = true) (hp : plainStore i = true)
    (h : vguard n ops st i (vop P n st i) fun s => vguard n ops s j (vop P n s j) K) : vguard n ops st j (vop P n st j) fun s => vguard n ops s i (vop P n s i) K := by
  obtain ⟨a1, a2, a3⟩ := Oper.apart_spec ha
  unfold plainStore at hp
  split at hp
  · rename_i T a x ho hd hg
    have hgd : ∀ (s : St) (K : St → Prop), vguard n ops s i (vop P n s i) K ↔ vop P n s i K := fun s K => by unfold vguard; rw [hg]
    rw [hgd] at h
    have hopn : ∀ k, j.dst = some k → ∀ x ∈ i.op.operands.toList, x ≠ .tmp k := fun k hk x hx e => by
      subst e
      exact a3 k hk (List.mem_append.2 (.inl (List.mem_filterMap.2 ⟨_, hx, rfl⟩)))
    unfold vop vstep at h
    simp only [ho, hd] at h
    cases hea : st.ev P 0 a with
    | eptr q sz0 l0 i0 off0 =>
      rw [hea] at h
      simp only at h
      cases hs : storeEl P st i with
      | none => rw [hs] at h; exact h.elim
      | some s =>
        rw [hs] at h
        simp only [Option.bind_some] at h
        obtain ⟨g, sz, k, e, rfl, hput⟩ := storeEl_put hs
        obtain ⟨v', hv', hf, hK⟩ := (vguard_quiet hq).1 h
        obtain ⟨v, hv, hvv⟩ := jres_tame ht hv'
        refine (vguard_quiet hq).2 ⟨v, hv, hf, (hgd _ _).2 ?_⟩
        cases hj : j.dst with
        | none =>
          rw [hj] at hK
          show vop P n st i K
          unfold vop vstep
          simp only [ho, hd, hea, hs, Option.bind_some]
          exact hK
        | some d =>
          rw [hj] at hK
          show vop P n (st.put d v) i K
          have he2 : (st.put d v).ev P 0 a = st.ev P 0 a := ev_agree fun t ht => upd_ne _ _ (by rintro rfl; exact hopn _ hj a (by rw [ho]; simp [Op.operands]) ht)
          unfold vop vstep
          simp only [ho, hd, he2, hea, hput d v (hopn d hj), Option.bind_some]
          rw [hvv]
          exact hK
    | _ =>
      rw [hea] at h
      simp only at h
      cases hs : storeBox P st i with
      | none => rw [hs] at h; exact h.elim
      | some r =>
        rw [hs] at h
        simp only [Option.bind_some] at h
        obtain ⟨v', hv', hf, hK⟩ := (vguard_quiet hq).1 h
        have hl : isLoad j = false := by
          unfold tame at ht
          unfold isLoad
          split
          · rename_i hjo; rw [hjo] at ht; cases ht
          · rfl
        have hv := jres_same (st := st) (s := { st with bx := upd st.bx r.1 (some r.2) }) hl ⟨rfl, rfl⟩ hv'
        refine (vguard_quiet hq).2 ⟨v', hv, hf, (hgd _ _).2 ?_⟩
        cases hj : j.dst with
        | none =>
          rw [hj] at hK
          show vop P n st i K
          unfold vop vstep
          simp only [ho, hd, hea, hs, Option.bind_some]
          exact hK
        | some d =>
          rw [hj] at hK
          show vop P n (st.put d v') i K
          have he2 : (st.put d v').ev P 0 a = st.ev P 0 a := ev_agree fun t ht => upd_ne _ _ (by rintro rfl; exact hopn _ hj a (by rw [ho]; simp [Op.operands]) ht)
          unfold vop vstep
          simp only [ho, hd, he2, hea, storeBox_put (hopn d hj), hs, Option.bind_some]
          exact hK
  · cases hp
theorem swap3 {ptrs : List Nat} {n : Nat} {ops : Array Oper} {st : St} {i j : Oper} {K : St → Prop} (hc : comm3 P ptrs ops i j = true) (hp : ∀ a ∈ ptrs, isP (st.s a) = true)
    (h : vguard n ops st i (vop P n st i) fun s => vguard n ops s j (vop P n s j) K) : vguard n ops st j (vop P n st j) fun s => vguard n ops s i (vop P n s i) K := by
  unfold comm3 at hc
  rw [Bool.or_eq_true, Bool.or_eq_true] at hc
  rcases hc with (hc | hc) | hc
  · exact swap hc h
  · simp only [Bool.and_eq_true, Bool.not_eq_true'] at hc
    obtain ⟨⟨⟨h1, hq⟩, h3⟩, h4⟩ := hc
    obtain ⟨a1, a2, a3⟩ := Oper.apart_spec h1
    obtain ⟨h5, s0, h6, h7⟩ := bstore_same h4 hp h
    obtain ⟨v, hv, hf, _⟩ := (vguard_quiet hq).1 h7
    have hv0 := jres_same h3 h6 hv
    refine (vguard_quiet hq).2 ⟨v, hv0, hf, ?_⟩
    refine bstore_putO h4 hp (fun k hk => a3 k hk) ?_ h5
    rintro s ⟨he, hs⟩
    obtain ⟨v', hv', _, hK⟩ := (vguard_quiet hq).1 hs
    have := jres_same h3 he hv'
    rw [hv0] at this
    cases this
    exact hK
  · simp only [Bool.and_eq_true] at hc
    exact swapSt hc.1.1.1 hc.1.1.2 hc.1.2 hc.2 h
/-- The places stay where they are. -/
theorem vguard_ptrs {ptrs : List Nat} {n : Nat} {ops : Array Oper} {st : St} {o : Oper} {K : St → Prop} (ho : (!isBox o && (!isStore o || boxStore ptrs o) && ptrs.all fun a => o.dst != some a) = true) (hp : ∀ a ∈ ptrs, isP (st.s a) = true)
    (h : vguard n ops st o (vop P n st o) K) : vguard n ops st o (vop P n st o) fun s => (∀ a ∈ ptrs, isP (s.s a) = true) ∧ K s := by
  simp only [Bool.and_eq_true, Bool.or_eq_true, Bool.not_eq_true', List.all_eq_true, bne_iff_ne] at ho
  obtain ⟨⟨h1, h2⟩, h3⟩ := ho
  rcases h2 with h2 | h2
  · exact vguard_mono (fun s hs => ⟨fun a ha => by rw [hs.1.slots a (fun e => h3 a ha e)]; exact hp a ha, hs.2⟩) (vguard_eff h1 h2 h).1
  · exact vguard_mono (fun s hs => ⟨fun a ha => by rw [hs.1.sl]; exact hp a ha, hs.2⟩) (bstore_same h2 hp h).1
theorem bubble3 {ptrs : List Nat} {n : Nat} {ops : Array Oper} (hok : ptrsOk ptrs ops = true) {K : St → Prop} {j : Nat} {oj : Oper} (hj : ops[j]? = some oj) {post : List Nat} : ∀ (pre : List Nat) (st : St), (∀ a ∈ ptrs, isP (st.s a) = true) →
    (∀ i ∈ pre, ∀ oi, ops[i]? = some oi → comm3 P ptrs ops oi oj = true) → vidx P n ops (pre ++ j :: post) st K →
    vguard n ops st oj (vop P n st oj) fun s => vidx P n ops (pre ++ post) s K
  | [], st, _, _, h => by simpa [vidx, hj] using h
  | i :: pre, st, hp, hc, h => by
    simp only [List.cons_append, vidx] at h
    split at h
    · rename_i oi hi
      have h1 : vguard n ops st oi (vop P n st oi) fun s => (∀ a ∈ ptrs, isP (s.s a) = true) ∧ vidx P n ops (pre ++ j :: post) s K := by
        unfold ptrsOk at hok
        rw [Bool.or_eq_true] at hok
        rcases hok with hok | hok
        · have : ptrs = [] := by simpa using hok
          subst this
          exact vguard_mono (fun s hs => ⟨by simp, hs⟩) h
        · exact vguard_ptrs (List.all_eq_true.1 hok oi (by rw [Array.mem_toList_iff]; exact Array.mem_of_getElem? hi)) hp h
      have h2 := vguard_mono (K' := fun s => vguard n ops s oj (vop P n s oj) fun s => vidx P n ops (pre ++ post) s K)
        (fun s hs => bubble3 hok hj pre s hs.1 (fun k hk => hc k (by simp [hk])) hs.2) h1
      have h3 := swap3 (hc i (by simp) oi hi) hp h2
      refine vguard_mono (fun s hs => ?_) h3
      simp only [List.cons_append, vidx, hi]
      exact hs
    · exact h.elim
theorem vguard_all {n : Nat} {ops : Array Oper} {st : St} {o : Oper} {α : Type} {K : α → St → Prop} (hn : noCall o = true) (a0 : α) (h : ∀ a, vguard n ops st o (vop P n st o) (K a)) :
    vguard n ops st o (vop P n st o) fun s => ∀ a, K a s := by
  have hv : (∀ a, vop P n st o (K a)) → vop P n st o fun s => ∀ a, K a s := by
    intro h
    unfold vop at h ⊢
    split
    · rename_i s e
      intro a
      have := h a
      rw [e] at this
      exact this
    · rename_i fa e
      exfalso
      have hc := (vstep_inr e).1
      unfold calls at hc
      split at hc
      · rename_i c ho
        unfold noCall at hn
        rw [ho] at hn
        simp only at hn
        split at hc
        · rename_i x hx
          rw [hx] at hn
          cases hn
        · cases hc
      · cases hc
    · rename_i e
      have := h a0
      rw [e] at this
      exact this
  unfold vguard at h ⊢
  split
  · rename_i hg
    exact hv fun a => by have := h a; rw [hg] at this; exact this
  · rename_i j want hg
    have h' : ∀ a, _ := fun a => by have := h a; rw [hg] at this; exact this
    split
    · rename_i g hgd
      simp only [hgd] at h'
      split
      · rename_i b hb
        simp only [hb] at h'
        exact ⟨fun e => hv fun a => (h' a).1 e, fun e => ⟨((h' a0).2 e).1, fun a => ((h' a).2 e).2⟩⟩
      · rename_i hb
        simp only [hb] at h'
        exact ⟨(h' a0).1, fun a => (h' a).2⟩
      · rename_i h1 h2
        have := h' a0
        split at this
        · rename_i b hb; exact absurd hb (h1 b)
        · rename_i hb; exact absurd hb h2
        · exact this
    · rename_i hgd
      have := h' a0
      simp only [hgd] at this
theorem pairsOk2_app {ptrs : List Nat} {ops : Array Oper} {A es : List Nat} : ∀ (pre : List Nat) {j : Nat} {post : List Nat}, pairsOk2 P ptrs ops A es (pre ++ j :: post) = true →
    (∀ i ∈ pre, pairOk2 P ptrs ops A es i j = true) ∧ pairsOk2 P ptrs ops A es (pre ++ post) = true
  | [], j, post, h => by
    simp only [List.nil_append, pairsOk2, Bool.and_eq_true] at h
    exact ⟨by simp, h.2⟩
  | i :: pre, j, post, h => by
    simp only [List.cons_append, pairsOk2, Bool.and_eq_true] at h
    obtain ⟨h1, h2⟩ := h
    obtain ⟨h3, h4⟩ := pairsOk2_app pre h2
    have h5 := List.all_eq_true.1 h1
    refine ⟨?_, ?_⟩
    · intro k hk
      rcases List.mem_cons.1 hk with rfl | hk
      · exact h5 j (by simp)
      · exact h3 k hk
    · simp only [List.cons_append, pairsOk2, Bool.and_eq_true]
      refine ⟨List.all_eq_true.2 fun k hk => h5 k ?_, h4⟩
      rcases List.mem_append.1 hk with hk | hk <;> simp [hk]
theorem one_order {A : List Nat} : ∀ (l l' : List Nat), l.Nodup → l'.Nodup → (∀ k, k ∈ l ↔ k ∈ l') → (l.Pairwise fun a b => (A.getD a 0).testBit b = false) → (l'.Pairwise fun a b => (A.getD a 0).testBit b = false) →
    (∀ a ∈ l, ∀ b ∈ l, a = b ∨ (A.getD a 0).testBit b = true ∨ (A.getD b 0).testBit a = true) → l = l'
  | [], [], _, _, _, _, _, _ => rfl
  | [], b :: r, _, _, hm, _, _, _ => by have := (hm b).2 (by simp); cases this
  | a :: r, [], _, _, hm, _, _, _ => by have := (hm a).1 (by simp); cases this
  | a :: r, b :: r', h1, h2, hm, h3, h4, hc => by
    rw [List.nodup_cons] at h1 h2
    rw [List.pairwise_cons] at h3 h4
    have hab : a = b := by
      rcases Classical.em (a = b) with e | e
      · exact e
      · exfalso
        have hb : b ∈ r := ((List.mem_cons.1 ((hm b).2 (by simp))).resolve_left fun x => e x.symm)
        have ha : a ∈ r' := ((List.mem_cons.1 ((hm a).1 (by simp))).resolve_left e)
        rcases hc a (by simp) b (by simp [hb]) with h | h | h
        · exact e h
        · rw [h3.1 b hb] at h; cases h
        · rw [h4.1 a ha] at h; cases h
    subst hab
    rw [one_order r r' h1.2 h2.2 (fun k => ⟨fun hk => ((List.mem_cons.1 ((hm k).1 (by simp [hk]))).resolve_left fun x => h1.1 (x ▸ hk)), fun hk => ((List.mem_cons.1 ((hm k).2 (by simp [hk]))).resolve_left fun x => h2.1 (x ▸ hk))⟩)
      h3.2 h4.2 fun x hx y hy => hc x (by simp [hx]) y (by simp [hy])]
theorem any_of_orders {ptrs : List Nat} {n : Nat} {ops : Array Oper} (hok : ptrsOk ptrs ops = true) {A : List Nat} {K : St → Prop} (hA : tabOk ops A = true) (hnc : ∀ (k : Nat) (o : Oper), ops[k]? = some o → noCall o = true ∨ ∀ a b, a < ops.size → b < ops.size → isEff P ops a = true → isEff P ops b = true →
      a = b ∨ a = k ∨ b = k ∨ (A.getD k 0).testBit a = true ∨ (A.getD k 0).testBit b = true ∨ (A.getD a 0).testBit b = true ∨ (A.getD b 0).testBit a = true)
    (hd : ∀ (k : Nat) (o : Oper), ops[k]? = some o → ∀ d ∈ dirs o, d < ops.size ∧ d ≠ k) :
    ∀ (f : Nat) (listed : Array Bool) (st : St), listed.size = ops.size → Shut ops listed → (∀ a ∈ ptrs, isP (st.s a) = true) → (∃ es, Lin P ops A listed es) → (∀ es, Lin P ops A listed es → Good P ptrs n ops A K f listed st es) → VAny P n ops K f listed st := by
  intro f
  induction f with
  | zero =>
    intro listed st hsz hs hpt ⟨es, hes⟩ hg
    obtain ⟨is, done, hl, hnd, hmem, hlt, hp, he, h, hdn⟩ := hg es hes
    have : is = [] := List.length_eq_zero_iff.1 hl
    subst this
    refine ⟨?_, h⟩
    cases hr : Region.ready .any ops listed with
    | nil => rfl
    | cons j r =>
      exfalso
      have hj : j ∈ Region.ready .any ops listed := by rw [hr]; simp
      obtain ⟨h1, o, ho, _⟩ := mem_ready.1 hj
      have hk : j < ops.size := (Array.getElem?_eq_some_iff.1 ho).1
      have := (hmem j hk).2 (by rw [Array.getD_eq_getD_getElem?] at h1 ⊢; rw [Array.getElem?_eq_getElem (by omega)] at h1 ⊢; exact h1)
      cases this
  | succ f ih =>
    intro listed st hsz hs hpt ⟨es0, hes0⟩ hg
    refine ⟨fun hr => ?_, fun j hj => ?_⟩
    · -- there is always one that is ready: what stands least in its table
      exfalso
      obtain ⟨is, done, hl, hnd, hmem, hlt, hp, he, h, hdn⟩ := hg es0 hes0
      match is, hl with
      | i :: rest, _ =>
        have hi : i < ops.size := hlt i (by simp)
        have hio : ops[i]? = some ops[i] := Array.getElem?_eq_getElem hi
        have : i ∈ Region.ready .any ops listed := by
          refine mem_ready.2 ⟨?_, ops[i], hio, fun e he hb => ?_⟩
          · have := (hmem i hi).1 (by simp)
            rw [Array.getD_eq_getD_getElem?] at this ⊢; rw [Array.getElem?_eq_getElem (by omega)] at this ⊢; exact this
          · have hde : e.on ∈ dirs ops[i] := mem_dirs.2 ⟨e, he, hb, rfl⟩
            obtain ⟨h1, h2⟩ := hd i _ hio _ hde
            cases hle : listed.getD e.on false with
            | true => rfl
            | false =>
              exfalso
              have hin := (hmem e.on h1).2 hle
              rcases List.mem_cons.1 hin with hin | hin
              · exact h2 hin
              · simp only [pairsOk2, Bool.and_eq_true] at hp
                have := List.all_eq_true.1 hp.1 _ hin
                unfold pairOk2 at this
                rw [hio, Array.getElem?_eq_getElem h1] at this
                simp [hde] at this
        rw [hr] at this; cases this
    · obtain ⟨h1, oj, ho, hpre⟩ := mem_ready.1 hj
      have hk : j < ops.size := (Array.getElem?_eq_some_iff.1 ho).1
      have hjl : listed.getD j false = false := by rw [Array.getD_eq_getD_getElem?] at h1 ⊢; rw [Array.getElem?_eq_getElem (by omega)] at h1 ⊢; exact h1
      have hdj : ∀ d ∈ dirs oj, listed.getD d false = true := by
        intro d hd'
        obtain ⟨e, h2, h3, rfl⟩ := mem_dirs.1 hd'
        exact hpre e h2 h3
      have hjs : j < listed.size := by omega
      have tab : ∀ i, i < ops.size → (A.getD j 0).testBit i = true → listed.getD i false = true := fun i hi hb => tab_spec hA hs j oj ho hdj i hi hb
      have hs' : Shut ops (listed.setIfInBounds j true) := by
        intro k o hko hlk d hdd
        rw [getD_set hjs] at hlk ⊢
        split
        · rfl
        · split at hlk
          · rename_i e
            subst e
            rw [ho] at hko; cases hko
            exact hdj d hdd
          · exact hs k o hko hlk d hdd
      have hw : ∃ es, Lin P ops A (listed.setIfInBounds j true) es := by
        refine ⟨es0.filter (fun k => decide (k ≠ j)), hes0.nodup.filter _, fun k => ?_, hes0.ord.filter _⟩
        rw [List.mem_filter, hes0.mem k, getD_set hjs]
        by_cases e : k = j <;> simp [e]
      -- from an order of what is left to one of all
      have step : ∀ es, Lin P ops A (listed.setIfInBounds j true) es → vguard n ops st oj (vop P n st oj) fun s => (∀ a ∈ ptrs, isP (s.s a) = true) ∧ Good P ptrs n ops A K f (listed.setIfInBounds j true) s es := by
        intro es hes
        have hup : Lin P ops A listed (if isEff P ops j = true then j :: es else es) := by
          by_cases hq : isEff P ops j = true
          · rw [if_pos hq]
            have hjn : j ∉ es := fun hin => by
              have := ((hes.mem j).1 hin).2.2
              rw [getD_set hjs] at this
              simp at this
            refine ⟨List.nodup_cons.2 ⟨hjn, hes.nodup⟩, fun k => ?_, List.pairwise_cons.2 ⟨fun b hb => ?_, hes.ord⟩⟩
            · rw [List.mem_cons, hes.mem k, getD_set hjs]
              by_cases e : k = j
              · subst e; simp [hk, hq, hjl]
              · simp [e]
            · have hb' := (hes.mem b).1 hb
              cases hbit : (A.getD j 0).testBit b with
              | false => rfl
              | true =>
                have h2 := tab b hb'.1 hbit
                have h3 := hb'.2.2
                rw [getD_set hjs] at h3
                split at h3
                · cases h3
                · rw [h2] at h3; cases h3
          · rw [if_neg hq]
            refine ⟨hes.nodup, fun k => ?_, hes.ord⟩
            rw [hes.mem k, getD_set hjs]
            by_cases e : k = j
            · subst e; simp [hq]
            · simp [e]
        obtain ⟨is, done, hl, hnd, hmem, hlt, hp, he, h, hdn⟩ := hg _ hup
        have hjin : j ∈ is := (hmem j hk).2 hjl
        obtain ⟨pre, post, rfl⟩ := List.append_of_mem hjin
        obtain ⟨hp1, hp2⟩ := pairsOk2_app pre hp
        have hnd' : (pre ++ post).Nodup ∧ j ∉ pre ++ post := by
          rw [List.nodup_append] at hnd
          obtain ⟨n1, n2, n3⟩ := hnd
          rw [List.nodup_cons] at n2
          refine ⟨List.nodup_append.2 ⟨n1, n2.2, fun a ha b hb => n3 a ha b (by simp [hb])⟩, ?_⟩
          intro hin
          rcases List.mem_append.1 hin with hin | hin
          · exact n3 j hin j (by simp) rfl
          · exact n2.1 hin
        have heff : effL P ops (pre ++ post) = es ∧ (isEff P ops j = true → ∀ i ∈ pre, isEff P ops i = false) := by
          unfold effL at he ⊢
          rw [List.filter_append, List.filter_cons] at he
          rw [List.filter_append]
          by_cases hq : isEff P ops j = true
          · rw [if_pos hq, if_pos hq] at he
            have hpe : pre.filter (isEff P ops) = [] := by
              cases hpf : pre.filter (isEff P ops) with
              | nil => rfl
              | cons x xs =>
                exfalso
                rw [hpf] at he
                simp only [List.cons_append, List.cons.injEq] at he
                have hx : x ∈ pre.filter (isEff P ops) := by rw [hpf]; simp
                rw [he.1] at hx
                exact hnd'.2 (List.mem_append.2 (.inl (List.mem_filter.1 hx).1))
            rw [hpe] at he ⊢
            simp only [List.nil_append, List.cons.injEq, true_and] at he
            refine ⟨by simpa using he, fun _ i hi => ?_⟩
            cases hie : isEff P ops i with
            | false => rfl
            | true =>
              have : i ∈ pre.filter (isEff P ops) := List.mem_filter.2 ⟨hi, hie⟩
              rw [hpe] at this; cases this
          · rw [if_neg hq, if_neg hq] at he
            exact ⟨he, fun e => absurd e hq⟩
        have hb0 := bubble3 hok ho pre st hpt (fun i hi oi hoi => by
          have := hp1 i hi
          unfold pairOk2 at this
          rw [hoi, ho] at this
          simp only [Bool.and_eq_true, Bool.or_eq_true] at this
          rcases this.2 with ((h2 | h2) | h2) | h2
          · exfalso
            have hilt := hlt i (by simp [hi])
            have := tab i hilt h2
            rw [(hmem i hilt).1 (by simp [hi])] at this; cases this
          · exact h2
          · exfalso
            have hj2 : isEff P ops j = true := h2.2
            have hi2 : isEff P ops i = true := h2.1
            rw [heff.2 hj2 i hi] at hi2; cases hi2
          · exfalso
            have hj2 : isEff P ops j = true := h2.1
            rw [if_pos hj2] at h2
            obtain ⟨e, he1, he2⟩ := List.any_eq_true.1 h2.2
            have hed : e ∈ done := by
              have hjd : j ∉ done := fun hin => by have := (hdn j hin).2; rw [hjl] at this; cases this
              have htw : ∀ (l : List Nat), j ∉ l → (l ++ j :: es).takeWhile (fun e => e != j) = l := by
                intro l
                induction l with
                | nil => intro _; simp
                | cons x xs ihx =>
                  intro hx
                  simp only [List.mem_cons, not_or] at hx
                  have hne : (x != j) = true := by simpa using fun e => hx.1 e.symm
                  simp only [List.cons_append, List.takeWhile_cons, hne, if_true, ihx hx.2]
              rw [htw done hjd] at he1
              exact he1
            obtain ⟨he3, he4⟩ := hdn e hed
            have hilt := hlt i (by simp [hi])
            have := tab_spec hA hs e ops[e] (Array.getElem?_eq_getElem he3) (fun d hdd => hs e ops[e] (Array.getElem?_eq_getElem he3) he4 d hdd) i hilt he2
            rw [(hmem i hilt).1 (by simp [hi])] at this; cases this) h
        have hb : vguard n ops st oj (vop P n st oj) fun s => (∀ a ∈ ptrs, isP (s.s a) = true) ∧ vidx P n ops (pre ++ post) s K := by
          have hok' := hok
          unfold ptrsOk at hok'
          rw [Bool.or_eq_true] at hok'
          rcases hok' with hok' | hok'
          · have : ptrs = [] := by simpa using hok'
            subst this
            exact vguard_mono (fun s hs => ⟨by simp, hs⟩) hb0
          · exact vguard_ptrs (List.all_eq_true.1 hok' oj (by rw [Array.mem_toList_iff]; exact Array.mem_of_getElem? ho)) hpt hb0
        refine vguard_mono (fun s hsK => ⟨hsK.1, ?_⟩) hb
        have hdn2 : ∃ done', (done' ++ es = done ++ (if isEff P ops j = true then j :: es else es)) ∧ ∀ e ∈ done', e < ops.size ∧ (listed.setIfInBounds j true).getD e false = true := by
          have up : ∀ e, listed.getD e false = true → (listed.setIfInBounds j true).getD e false = true := fun e he => by
            rw [getD_set hjs]
            split
            · rfl
            · exact he
          by_cases hq : isEff P ops j = true
          · refine ⟨done ++ [j], by rw [if_pos hq]; simp, fun e he => ?_⟩
            rcases List.mem_append.1 he with he | he
            · exact ⟨(hdn e he).1, up e (hdn e he).2⟩
            · simp only [List.mem_singleton] at he
              subst he
              exact ⟨hk, by rw [getD_set hjs]; simp⟩
          · exact ⟨done, by rw [if_neg hq], fun e he => ⟨(hdn e he).1, up e (hdn e he).2⟩⟩
        obtain ⟨done', hd1, hd2⟩ := hdn2
        refine ⟨pre ++ post, done', by simp at hl ⊢; omega, hnd'.1, fun k hk' => ?_, fun k hk' => hlt k ?_, by rw [hd1]; exact hp2, heff.1, hsK.2, hd2⟩
        · rw [getD_set hjs]
          have := hmem k hk'
          by_cases e : k = j
          · subst e
            simp only [if_true]
            constructor
            · intro x; exact absurd x hnd'.2
            · intro x; cases x
          · rw [if_neg e, ← this]
            simp [e]
        · rcases List.mem_append.1 hk' with hk' | hk' <;> simp [hk']
      obtain ⟨es1, hes1⟩ := hw
      refine ⟨oj, ho, ?_⟩
      have hall : vguard n ops st oj (vop P n st oj) fun s => ∀ es : { es // Lin P ops A (listed.setIfInBounds j true) es }, (∀ a ∈ ptrs, isP (s.s a) = true) ∧ Good P ptrs n ops A K f (listed.setIfInBounds j true) s es.1 := by
        rcases hnc j oj ho with hn | hn
        · exact vguard_all (α := { es // Lin P ops A (listed.setIfInBounds j true) es }) (K := fun es s => (∀ a ∈ ptrs, isP (s.s a) = true) ∧ Good P ptrs n ops A K f (listed.setIfInBounds j true) s es.1) hn ⟨es1, hes1⟩ fun es => step es.1 es.2
        · refine vguard_mono (fun s hsK es => ?_) (step es1 hes1)
          have : es1 = es.1 := one_order es1 es.1 hes1.nodup es.2.nodup (fun k => (hes1.mem k).trans (es.2.mem k).symm) hes1.ord es.2.ord fun a ha b hb => by
            obtain ⟨a1, a2, a3⟩ := (hes1.mem a).1 ha
            obtain ⟨b1, b2, b3⟩ := (hes1.mem b).1 hb
            have out : ∀ x, x < ops.size → (listed.setIfInBounds j true).getD x false = false → x ≠ j ∧ (A.getD j 0).testBit x = false := fun x hx hl => by
              rw [getD_set hjs] at hl
              split at hl
              · cases hl
              · rename_i hne
                refine ⟨hne, ?_⟩
                cases hb : (A.getD j 0).testBit x with
                | false => rfl
                | true =>
                  have := tab_spec hA hs j oj ho hdj x hx hb
                  rw [this] at hl; cases hl
            obtain ⟨p1, p2⟩ := out a a1 a3
            obtain ⟨q1, q2⟩ := out b b1 b3
            rcases hn a b a1 b1 a2 b2 with h | h | h | h | h | h | h
            · exact .inl h
            · exact absurd h p1
            · exact absurd h q1
            · rw [p2] at h; cases h
            · rw [q2] at h; cases h
            · exact .inr (.inl h)
            · exact .inr (.inr h)
          rw [← this]
          exact hsK
      exact vguard_mono (fun s hsK => ih _ s (by simpa using hsz) hs' (hsK ⟨es1, hes1⟩).1 ⟨es1, hes1⟩ fun es hes => (hsK ⟨es, hes⟩).2) hall
theorem AWP.regionMany {X : Ent} {ks : List Nat} {id : Nat} {ops : Array Oper} {Q : Exit → St → Prop} {st : St} (ptrs A : List Nat) (iss : List (List Nat)) (hm : P.follows .mixedOrders = true) (ho : ordersOk P ptrs ops A iss = true) (hpt : (ptrs.all fun a => isP (st.s a)) = true)
    (h : ∀ is ∈ iss, vidx P X.n ops is st fun s => Q .normal (norm ks s)) : AWP P X (.region id ops true) Q st := by
  simp only [ordersOk, Bool.and_eq_true, decide_eq_true_eq] at ho
  obtain ⟨⟨⟨⟨⟨⟨⟨⟨h0, h1⟩, h2⟩, h3⟩, h4⟩, h5⟩, h6⟩, h7⟩, h8⟩ := ho
  have hone : ∀ is ∈ iss, oneOk P ptrs ops A is = true := fun is his => List.all_eq_true.1 h1 is his
  intro _ C a w hc
  refine wpIn_region_any hm ?_
  have hc' : Conc X st C a { w with drawn := w.drawn + 1 } := hc.same rfl rfl rfl rfl
  refine VAny_sound (K := fun s => Q .normal (norm ks s)) (fun st' C' a' w' hq hc'' => ?_) _ _ st ?_ C a _ hc'
  · obtain ⟨C2, h2⟩ := hc''.norm ks
    exact ⟨_, C2, hq, h2⟩
  · have hrep : ∀ k, k < ops.size → (Array.replicate ops.size false).getD k false = false := fun k hk => by simp [Array.getD_eq_getD_getElem?, hk]
    have hmemE : ∀ is ∈ iss, ∀ k, k ∈ effL P ops is ↔ (k < ops.size ∧ isEff P ops k = true ∧ (Array.replicate ops.size false).getD k false = false) := by
      intro is his k
      have := hone is his
      simp only [oneOk, Bool.and_eq_true, decide_eq_true_eq] at this
      obtain ⟨⟨⟨⟨o1, o2⟩, o3⟩, o4⟩, o5⟩ := this
      unfold effL
      rw [List.mem_filter]
      constructor
      · rintro ⟨q1, q2⟩
        have hk : k < ops.size := by simpa using List.all_eq_true.1 o2 k q1
        exact ⟨hk, q2, hrep k hk⟩
      · rintro ⟨q1, q2, _⟩
        exact ⟨by simpa using List.all_eq_true.1 o4 k (List.mem_range.2 q1), q2⟩
    refine any_of_orders h0 h3 (fun k o hko => ?_) (fun k o hko d hd => ?_) _ _ st (by simp) (fun k o hko hl => ?_) (fun a ha => List.all_eq_true.1 hpt a ha) ?_ (fun es hes => ?_)
    · have hk : k < ops.size := (Array.getElem?_eq_some_iff.1 hko).1
      have := List.all_eq_true.1 h4 k (List.mem_range.2 hk)
      unfold callOne at this
      rw [hko] at this
      rw [Bool.or_eq_true] at this
      refine this.imp (fun x => x) fun h a b a1 b1 a2 b2 => ?_
      have hE : ∀ x, x < ops.size → isEff P ops x = true → x ∈ effL P ops (List.range ops.size) := fun x hx he => List.mem_filter.2 ⟨List.mem_range.2 hx, he⟩
      have h := List.all_eq_true.1 (List.all_eq_true.1 h a (hE a a1 a2)) b (hE b b1 b2)
      simpa only [Bool.or_eq_true, beq_iff_eq, or_assoc] using h
    · have hk : k < ops.size := (Array.getElem?_eq_some_iff.1 hko).1
      have := List.all_eq_true.1 h8 k (List.mem_range.2 hk)
      rw [hko] at this
      have := List.all_eq_true.1 this d hd
      simpa using this
    · have hk : k < ops.size := (Array.getElem?_eq_some_iff.1 hko).1
      rw [hrep k hk] at hl; cases hl
    · match iss, h7 with
      | is :: r, _ => exact ⟨effL P ops is, h5, hmemE is (by simp), (pairwiseB_iff _).1 h6⟩
    · have hE : ∀ k, k ∈ effL P ops (List.range ops.size) ↔ k ∈ es := by
        intro k
        rw [hes.mem k]
        unfold effL
        rw [List.mem_filter, List.mem_range]
        constructor
        · rintro ⟨q1, q2⟩; exact ⟨q1, q2, hrep k q1⟩
        · rintro ⟨q1, q2, _⟩; exact ⟨q1, q2⟩
      have hEn : (effL P ops (List.range ops.size)).Nodup := List.filter_sublist.nodup List.nodup_range
      have hlen : es.length = (effL P ops (List.range ops.size)).length := Nat.le_antisymm (nodup_len _ _ hes.nodup fun k hk => (hE k).2 hk) (nodup_len _ _ hEn fun k hk => (hE k).1 hk)
      have hin := extsN_mem (A := A) _ (effL P ops (List.range ops.size)) es hlen hes.nodup hEn hE hes.ord
      have hcov := List.all_eq_true.1 h2 es hin
      simp only [List.any_eq_true, beq_iff_eq] at hcov
      obtain ⟨is, his, hes'⟩ := hcov
      have := hone is his
      simp only [oneOk, Bool.and_eq_true, decide_eq_true_eq] at this
      obtain ⟨⟨⟨⟨o1, o2⟩, o3⟩, o4⟩, o5⟩ := this
      refine ⟨is, [], o1, o3, fun k hk => ?_, fun k hk => by simpa using List.all_eq_true.1 o2 k hk, by rw [List.nil_append, ← hes']; exact o5, hes', h is his, by simp⟩
      have : k ∈ is := by simpa using List.all_eq_true.1 o4 k (List.mem_range.2 hk)
      simp [this, hrep k hk]
/-- All orders. -/
def allO (F : List Nat → Prop) : List (List Nat) → Prop
  | [] => True
  | is :: r => F is ∧ allO F r
theorem allO_mem {F : List Nat → Prop} : ∀ {iss : List (List Nat)}, allO F iss → ∀ is ∈ iss, F is
  | _ :: _, h, is, hm => by
    rcases List.mem_cons.1 hm with rfl | hm
    · exact h.1
    · exact allO_mem h.2 is hm
theorem allO_nil (F : List Nat → Prop) : allO F [] = True := rfl
theorem allO_cons (F : List Nat → Prop) (is : List Nat) (r : List (List Nat)) : allO F (is :: r) = (F is ∧ allO F r) := rfl
theorem AWP.seqM {X : Ent} (ks ptrs A : List Nat) (iss : List (List Nat)) {id : Nat} {ops : Array Oper} {y : Code} {Q : Exit → St → Prop} {st : St} (hm : P.follows .mixedOrders = true) (ho : ordersOk P ptrs ops A iss = true) (hb : iss.all (inB ops) = true) (hpt : (ptrs.all fun a => isP (st.s a)) = true)
    (h : ∀ K : St → Prop, (∀ s, AWP P X y Q s → K s) → allO (fun is => vops P X.n ops (pickO ops is) st fun s => K (norm ks s)) iss) : AWP P X (.seq (.region id ops true) y) Q st :=
  AWP.seq (AWP.regionMany ptrs A iss hm ho hpt fun is his => vidx_pick is st (List.all_eq_true.1 hb is his) (allO_mem (h _ fun _ hs => hs) is his))
theorem AWP.lastM {X : Ent} (ks ptrs A : List Nat) (iss : List (List Nat)) {id : Nat} {ops : Array Oper} {Q : Exit → St → Prop} {st : St} (hm : P.follows .mixedOrders = true) (ho : ordersOk P ptrs ops A iss = true) (hb : iss.all (inB ops) = true) (hpt : (ptrs.all fun a => isP (st.s a)) = true)
    (h : ∀ K : St → Prop, (∀ s, Q .normal s → K s) → allO (fun is => vops P X.n ops (pickO ops is) st fun s => K (norm ks s)) iss) : AWP P X (.region id ops true) Q st :=
  AWP.regionMany ptrs A iss hm ho hpt fun is his => vidx_pick is st (List.all_eq_true.1 hb is his) (allO_mem (h _ fun _ hs => hs) is his)
end Go.VS
namespace Go.VS
set_option linter.unusedVariables false
set_option linter.unusedSimpArgs false
set_option linter.unusedSectionVars false
open Go
variable {P : Program}
/-- A loop of at most so many rounds. -/
def LoopN (P : Program) (X : Ent) (c : Code) (Q : Exit → St → Prop) : Nat → St → Prop
  | 0, _ => False
  | n + 1, st => AWP P X c (thenS (LoopN P X c Q n) Q) st
theorem LoopN.succ {X : Ent} {c : Code} {Q : Exit → St → Prop} {n : Nat} {st : St} (h : AWP P X c (thenS (LoopN P X c Q n) Q) st) : LoopN P X c Q (n + 1) st := h
theorem AWP.unroll {X : Ent} {c : Code} {Q : Exit → St → Prop} {st : St} (n : Nat) (h : LoopN P X c Q n st) : AWP P X (.loop c) Q st := by
  refine AWP.loopI (LoopN P X c Q) n h fun n s hs => ?_
  cases n with
  | zero => exact hs.elim
  | succ n =>
    refine AWP.mono hs fun e s' h' => ?_
    cases e with
    | normal => exact ⟨n, Nat.lt_succ_self n, h'⟩
    | _ => exact h'
theorem AWP.loopT {X : Ent} {c y : Code} {Q : Exit → St → Prop} {st : St} (n : Nat) (h : LoopN P X c (thenS (AWP P X y Q) Q) n st) : AWP P X (.seq (.loop c) y) Q st := AWP.seq (AWP.unroll n h)
theorem take_drop_len {α : Type} (l : List α) (i : Nat) : (l.drop i).take (l.length - i) = l.drop i := by
  rw [← List.length_drop, List.take_length]
/-- A slice that is nil may bear an unused name. -/
theorem Conc.adopt {X : Ent} {st : St} {C : Ctx} {a : Act} {w : World} (h : Conc X st C a w) {k sz sz' : Nat} {g : Stamp} {eo : Nat} (hk : st.s k = .sl none true sz []) :
    Conc X (st.put k (.sl (some (g, eo)) true sz' [])) C a w where
  n := h.n
  slots t := by
    by_cases e : t = k
    · subst e
      have := h.slots t
      rw [hk] at this
      simp only [St.put, upd_same]
      rcases this with ⟨_, _, h2⟩ | ⟨h2, _⟩
      · exact .inr (.inl ⟨rfl, rfl, h2⟩)
      · cases h2
    · simp only [St.put, upd_ne _ _ e]; exact h.slots t
  frg := by
    refine h.frg.go (w' := w) (C' := C) ?_ rfl (fun _ hb => .inl hb) (fun _ hb => .inl hb) (fun _ _ _ => rfl) (Nat.le_refl _) rfl rfl rfl
    by_cases e : X.n = k
    · subst e
      have e2 : (st.put X.n (.sl (some (g, eo)) true sz' [])).s X.n = .sl (some (g, eo)) true sz' [] := upd_same _ _ _
      rw [e2]
      exact ⟨fun _ => rfl, fun _ _ _ _ h => (by cases h), fun _ _ h => (by cases h), fun _ _ => trivial⟩
    · have e2 : (st.put k (.sl (some (g, eo)) true sz' [])).s X.n = st.s X.n := upd_ne _ _ e
      rw [e2]
      exact .same fun _ _ h => h
  boxes := h.boxes
  boxSome := h.boxSome
  mem := h.mem
  cons := h.cons
  made := h.made
  tg := h.tg
  tgInj := h.tgInj
  tgMade := h.tgMade
theorem AWP.adopt {X : Ent} {c : Code} {Q : Exit → St → Prop} {st : St} (k : Nat) (g : Stamp) (eo sz' : Nat) {sz : Nat} (hk : st.s k = .sl none true sz []) (h : AWP P X c Q (st.put k (.sl (some (g, eo)) true sz' []))) :
    AWP P X c Q st := AWP.weaken h fun C _ _ hc => ⟨C, hc.adopt hk⟩
def setB : List (Nat × List AV) → Nat → List AV → List (Nat × List AV)
  | [], k, v => [(k, v)]
  | (k', w) :: B, k, v => if k = k' then (k, v) :: B else (k', w) :: setB B k v
theorem lkB_setB : ∀ (B : List (Nat × List AV)) (k : Nat) (v : List AV) (t : Nat), lkB (setB B k v) t = if t = k then some v else lkB B t
  | [], k, v, t => rfl
  | (k', w) :: B, k, v, t => by
    simp only [setB]
    by_cases e : k = k'
    · rw [if_pos e]
      subst e
      simp only [lkB]
      by_cases e2 : t = k <;> simp [e2]
    · rw [if_neg e]
      simp only [lkB, lkB_setB B k v t]
      by_cases e2 : t = k'
      · have : t ≠ k := fun x => e (x ▸ e2)
        simp [e2, this, Ne.symm e]
      · simp [e2]
theorem upd_lkB' (L : List (Nat × List AV)) (k : Nat) (v : List AV) : upd (lkB L) k (some v) = lkB (setB L k v) := by
  funext t
  rw [lkB_setB]
  rfl
theorem mx_none (p : Nat → Prop) : (∀ k, k ∈ (none : Option Nat) → p k) = True := by simp
theorem byte_i64 (c : UInt8) : IntKind.wrap .i64 (c.toNat : Int) = c.toNat := by
  have := c.toNat_lt
  exact Go.IntWalk.i64_in _ (by omega)
theorem byte_u8 (c : UInt8) : IntKind.wrap .u8 (c.toNat : Int) = c.toNat := by
  have := c.toNat_lt
  exact Go.IntWalk.u8_in _ (by omega)
theorem callP_intro2 {st : St} {d : Option Nat} {f : FuncId} {as : List AV} {r : AV} {K : St → Prop} (h : CallsP P f (as.map froz) r) (hk : optP (callSt st d as r) K) : callP P st d f as K :=
  ⟨r, h, hk⟩
def mapK (F : AV → AV) : List (Nat × AV) → List (Nat × AV)
  | [] => []
  | (k, v) :: L => (k, F v) :: mapK F L
def mapKB (F : List AV → List AV) : List (Nat × List AV) → List (Nat × List AV)
  | [] => []
  | (k, v) :: L => (k, F v) :: mapKB F L
theorem lk_mapK (F : AV → AV) (hF : F .undef = .undef) : ∀ (L : List (Nat × AV)) (t : Nat), lk (mapK F L) t = F (lk L t)
  | [], t => hF.symm
  | (k, v) :: L, t => by
    simp only [mapK, lk, lk_mapK F hF L t]
    split <;> rfl
theorem lkB_mapKB (F : List AV → List AV) : ∀ (L : List (Nat × List AV)) (t : Nat), lkB (mapKB F L) t = (lkB L t).map F
  | [], t => rfl
  | (k, v) :: L, t => by
    simp only [mapKB, lkB, lkB_mapKB F L t]
    split <;> rfl
theorem setE_mk (L : List (Nat × AV)) (B : List (Nat × List AV)) (c f : Stamp → Bool) (m : Nat → Bool) (r : Nat → Option Stamp) (g : Stamp) (sz k : Nat) (e : AV) :
    (St.mk (lk L) (lkB B) c f m r).setE g sz k e = St.mk (lk (mapK (setA g sz k e) L)) (lkB (mapKB (setL g sz k e) B)) c f m r := by
  unfold St.setE
  congr 1
  · funext t; rw [lk_mapK _ rfl]
  · funext t; rw [lkB_mapKB]
theorem map_snoc {α : Type} (f : α → AV) (l : List α) (a : α) : l.map f ++ [f a] = (l ++ [a]).map f := by simp
end Go.VS
namespace Go.VS
set_option linter.unusedVariables false
set_option linter.unusedSimpArgs false
set_option linter.unusedSectionVars false
open Go
theorem getD_take' {α : Type} (l : List α) (k j : Nat) (d : α) (h : j < k) : (l.take k).getD j d = l.getD j d := by
  simp [List.getD_eq_getElem?_getD, h]
theorem ofInt_nat (w n : Nat) : BitVec.ofInt w (n : Int) = BitVec.ofNat w n := by
  apply BitVec.eq_of_toNat_eq
  simp [BitVec.toNat_ofNat]
theorem or_shift (a c i : Nat) (h : c < 2 ^ i) : (a * 2 ^ i) ||| c = a * 2 ^ i + c := by
  have := Nat.shiftLeft_add_eq_or_of_lt h a
  rw [Nat.shiftLeft_eq] at this
  exact this.symm
theorem bitop_or_256 (x : Int) (c : UInt8) (h : 0 ≤ x ∧ x ≤ 1000000000000) : bitop .or .i64 (x * 256) (c.toNat : Int) = x * 256 + c.toNat := by
  have hc := c.toNat_lt
  obtain ⟨a, rfl⟩ := Int.eq_ofNat_of_zero_le h.1
  unfold bitop
  simp only
  have e : ((a : Int) * 256) = ((a * 256 : Nat) : Int) := by simp
  rw [e, ofInt_nat, ofInt_nat]
  simp only [BitVec.toNat_or, BitVec.toNat_ofNat]
  have hb : IntKind.i64.bits = 64 := rfl
  rw [hb, Nat.mod_eq_of_lt (by omega), Nat.mod_eq_of_lt (by omega)]
  have := or_shift a c.toNat 8 (by omega)
  rw [show (2 : Nat) ^ 8 = 256 from rfl] at this
  rw [this]
  have e2 : ((a * 256 + c.toNat : Nat) : Int) = (a : Int) * 256 + c.toNat := by simp
  rw [e2]
  exact Go.IntWalk.i64_in _ (by omega)
theorem and_low (a i : Nat) : a &&& (2 ^ i - 1) = a % 2 ^ i := Nat.and_two_pow_sub_one_eq_mod a i
end Go.VS
namespace Go.VS
set_option linter.unusedVariables false
set_option linter.unusedSimpArgs false
set_option linter.unusedSectionVars false
open Go
variable {P : Program}
def delB (id : Nat) : List (Nat × List AV) → List (Nat × List AV)
  | [] => []
  | (k, v) :: B => if k = id then delB id B else (k, v) :: delB id B
theorem delB_nil (id : Nat) : delB id [] = [] := rfl
theorem delB_cons (id k : Nat) (v : List AV) (B : List (Nat × List AV)) : delB id ((k, v) :: B) = if k = id then delB id B else (k, v) :: delB id B := rfl
theorem lkB_delB (id : Nat) : ∀ (B : List (Nat × List AV)) (t : Nat), lkB (delB id B) t = if t = id then none else lkB B t
  | [], t => by simp [delB, lkB]
  | (k, v) :: B, t => by
    simp only [delB]
    by_cases e : k = id
    · rw [if_pos e, lkB_delB id B t]
      subst e
      simp only [lkB]
      by_cases e2 : t = k <;> simp [e2]
    · rw [if_neg e]
      simp only [lkB, lkB_delB id B t]
      by_cases e2 : t = k
      · subst e2; simp [e]
      · simp [e2]
theorem dropBox_mk (L : List (Nat × AV)) (B : List (Nat × List AV)) (c f : Stamp → Bool) (m : Nat → Bool) (r : Nat → Option Stamp) (id : Nat) :
    (St.mk (lk L) (lkB B) c f m r).dropBox id = St.mk (lk (mapK (dropAV id) L)) (lkB (delB id (mapKB (dropL id) B))) c f m r := by
  unfold St.dropBox
  congr 1
  · funext t; exact (lk_mapK _ rfl L t).symm
  · funext t
    rw [lkB_delB, lkB_mapKB]
    rfl
def dropBoxes : List Nat → St → St
  | [], st => st
  | d :: ds, st => dropBoxes ds (if d < 1000000 then st.dropBox d else st)
theorem dropBoxes_nil (st : St) : dropBoxes [] st = st := rfl
theorem dropBoxes_cons (d : Nat) (ds : List Nat) (st : St) : dropBoxes (d :: ds) st = dropBoxes ds (if d < 1000000 then st.dropBox d else st) := rfl
/-- Only some slots, and without some variables. -/
def slim (ks ds : List Nat) (st : St) : St := norm ks (dropBoxes ds st)
theorem AWP.slim {X : Ent} {c : Code} {Q : Exit → St → Prop} {st : St} (ks ds : List Nat) (h : AWP P X c Q (VS.slim ks ds st)) : AWP P X c Q st := by
  refine AWP.weaken h fun C a w hc => ?_
  have : ∀ (ds : List Nat) (st : St) (C : Ctx), Conc X st C a w → ∃ C', Conc X (dropBoxes ds st) C' a w := by
    intro ds
    induction ds with
    | nil => exact fun st C hc => ⟨C, hc⟩
    | cons d ds ih =>
      intro st C hc
      simp only [dropBoxes]
      split
      · rename_i hd
        exact ih _ _ (hc.dropBox d hd)
      · exact ih _ _ hc
  obtain ⟨C', h'⟩ := this ds st C hc
  exact h'.norm ks
/-- A loop, with its state written out as a function of what turns. -/
theorem AWP.loopX {X : Ent} {c : Code} {Q : Exit → St → Prop} {st : St} {α : Type} (ks ds : List Nat) (S : α → St) (H : α → Prop) (μ : α → Nat) (x0 : α) (h0 : VS.slim ks ds st = S x0) (hH : H x0)
    (round : ∀ x, H x → AWP P X c (thenS (fun s' => ∃ y, VS.slim ks ds s' = S y ∧ H y ∧ μ y < μ x) Q) (S x)) : AWP P X (.loop c) Q st := by
  refine AWP.loopI (fun n s => ∃ x, VS.slim ks ds s = S x ∧ H x ∧ μ x = n) (μ x0) ⟨x0, h0, hH, rfl⟩ ?_
  rintro n s ⟨x, h1, h2, rfl⟩
  refine AWP.slim ks ds ?_
  rw [h1]
  refine AWP.mono (round x h2) fun e s' h' => ?_
  cases e with
  | normal =>
    obtain ⟨y, h3, h4, h5⟩ := h'
    exact ⟨μ y, h5, y, h3, h4, rfl⟩
  | _ => exact h'
end Go.VS
namespace Go.VS
set_option linter.unusedVariables false
set_option linter.unusedSimpArgs false
set_option linter.unusedSectionVars false
open Go
variable {P : Program}
end Go.VS
