/- Part of a framework that states what Go functions answer on values as data; it holds for every program of the model. -/
import Derived.Test.YtfemncfhiihckaaDoorVsSimp
import Derived.RangeFuncLeaves
namespace Go.VS
set_option linter.unusedVariables false
set_option linter.unusedSimpArgs false
set_option linter.unusedSectionVars false
open Go
variable {P : Program}
/-- A call that was put off, from a frame that is on its way out. -/
def callsD (P : Program) (f : FuncId) (a : Array Value) (w : World) (R : Ending → World → Prop) : Prop := CallsDIn (Fr none) 0 P f a .returning w fun e u w' => u = .returning ∧ R e w'
theorem callsD_mono {f : FuncId} {a : Array Value} {w : World} {R R' : Ending → World → Prop} (h : callsD P f a w R) (hr : ∀ e w', R e w' → R' e w') : callsD P f a w R' :=
  CallsDIn.mono h fun e u w' q => ⟨q.1, hr e w' q.2⟩
def CallsBD (P : Program) (f : FuncId) (args : List AV) (bs : List (List AV)) (r : AV) (bs' : List (List AV)) : Prop := CallsBT (callsD P f) args bs r bs'
theorem CallsBD.intro {f : FuncId} {fn : Func} {c : Code} {args : List AV} {bs bs' : List (List AV)} {r : AV} (hf : P.funcs[f]? = some fn) (hb : fn.body = some c) (hn : args.length ≤ fn.ntmps)
    (h : ∀ X : Ent, X.n = fn.ntmps → AWP P X c (retSB P fn.results.toList bs.length r bs') (entryB args bs)) : CallsBD P f args bs r bs' := by
  intro w C own0 hbig htab hsh0 vals hm h4 hdead hbx hlen hargs hboxes
  have hc := lent_conc hn true w C own0 hbig htab hsh0 vals hm h4 hdead hbx hlen hargs hboxes
  refine callsDIn_of_wp hf hb trivial ?_
  have h' := h _ rfl (yieldOk_none fun _ _ _ _ _ _ _ h => h) _ _ w hc
  refine wpIn_mono (F := Fr none) h' ?_
  rintro e a' w' ⟨st', C', h1, h2⟩
  obtain ⟨he, u, h3, h5⟩ := lent_fin hbx h1 h2
  have hd : a'.defers = [] := by
    obtain ⟨_, rs, k2, k3, _⟩ := h2.frg.marks rfl
    rw [k2, k3 rfl]; rfl
  rcases he with rfl | rfl <;> exact ⟨hd, u, h3, h5⟩
/-- Where a function with a deferred call begins. -/
def entryD (args : List AV) (bs : List (List AV)) (n : Nat) : St := { entryB args bs with s := upd (entryB args bs).s n (.hid .undef) }
/-- What it is to leave: what was put off is done first. -/
def retSD (P : Program) (n : Nat) (rs : List ResultVar) (nIn : Nat) (r : AV) (bs' : List (List AV)) : Exit → St → Prop := fun e st =>
  (e = .ret ∨ e = .normal) ∧ ∃ (g : FuncId) (cap : List AV), st.s n = .hid (.fn g cap) ∧ callOk P g = true ∧ ∃ (ids : List Nat) (own : List Stamp) (L : Lent) (r2 : AV) (bs2 : List (List AV)) (st2 : St),
    lendStO { st with s := upd st.s n (.hid .undef) } cap ids own = some L ∧ CallsBD P g L.args L.bs r2 bs2 ∧ backSt { st with s := upd st.s n (.hid .undef) } none (sharedO own cap) L.ids L.gs r2 bs2 = some st2 ∧ retSF P rs nIn r bs' e st2
theorem CallsB.introD {f : FuncId} {fn : Func} {c : Code} {args : List AV} {bs bs' : List (List AV)} {r : AV} (hf : P.funcs[f]? = some fn) (hb : fn.body = some c) (hn : args.length ≤ fn.ntmps)
    (h : ∀ X : Ent, X.n = fn.ntmps → AWP P X c (retSD P fn.ntmps fn.results.toList bs.length r bs') (entryD args bs fn.ntmps)) : CallsB P f args bs r bs' := by
  intro w C own0 hbig htab hsh0 vals hm h4 hdead hbx hlen hargs hboxes
  have hc := lent_conc hn false w C own0 hbig htab hsh0 vals hm h4 hdead hbx hlen hargs hboxes
  have hcD : Conc (Ent.lentW w C own0 fn.ntmps hbig htab hsh0 false true) (entryD args bs fn.ntmps) { C with fo := fun _ => False } { tmps := vals.toArray ++ Array.replicate (fn.ntmps - vals.toArray.size) undef, defers := [] } w :=
    { n := hc.n
      slots := fun t => by
        show Rep w _ (upd (entryB args bs).s fn.ntmps (.hid .undef) t) _
        unfold upd
        split
        · trivial
        · exact hc.slots t
      frg := by
        have e : (entryD args bs fn.ntmps).s fn.ntmps = .hid .undef := upd_same _ _ _
        show Frg _ ((entryD args bs fn.ntmps).s fn.ntmps) _ _ _ _
        rw [e]
        exact ⟨fun _ => ⟨rfl, rfl⟩, fun x => (by cases x), trivial, fun b hb => hb.elim, fun b _ hb => hb⟩
      boxes := hc.boxes, boxSome := hc.boxSome, mem := (hm.atW false true).fo _, cons := hc.cons, made := hc.made, tg := hc.tg, tgInj := hc.tgInj, tgMade := hc.tgMade }
  refine (callsIn_wide (n := 0)).1 (callsIn_of_wp_marks hf hb trivial ?_)
  have h' := h _ rfl (yieldOk_none fun _ _ _ _ _ _ _ h => h) _ _ w hcD
  refine wpIn_mono (F := Fr none) h' ?_
  rintro e a' w' ⟨st', C', h1, h2⟩
  obtain ⟨he, g, cap, hs, hck, ids, own, L, r2, bs2, st2, hl, hcd, hb2, hret⟩ := h1
  have hdm := (h2.frg.dm rfl).2
  replace hdm : FD w' C' (st'.s fn.ntmps) a'.defers := hdm
  rw [hs] at hdm
  obtain ⟨vs, hds, hrs⟩ := hdm
  have h3 := h2.slotG (a' := { a' with defers := [] }) (v := .hid .undef) (fun _ => trivial) rfl ⟨fun _ => ⟨rfl, rfl⟩, fun x => (by cases x), trivial, h2.frg.fin, h2.frg.out⟩
  have hvals : ∀ (i : Nat) (v : AV) (u : Value), cap[i]? = some v → vs[i]? = some u → Rep w' C' v u := fun i v u hv hu => by
    obtain ⟨u', hu', _, hr⟩ := hrs.get hv
    rw [hu] at hu'
    cases hu'
    exact hr
  have h4' := calls_lentT (T := callsD P g) (fun h hr => callsD_mono h hr) hl hcd hb2 rfl h3 hrs.length.symm hvals
  have key : LeavesInM (Fr none) 0 P fn a'.tmps (PostB w C own0 hbig htab hsh0 r bs') a'.defers .returning w' := by
    rw [hds]
    refine ⟨by simp, .inr ⟨by simp [Fr], .func g, vs.toArray, g, vs.toArray, rfl, ?_, fun _ _ => trivial, ?_⟩⟩
    · unfold callOk at hck
      split at hck
      · rename_i fn2 hfn
        simp only [Bool.and_eq_true, bne_iff_ne, ne_eq] at hck
        obtain ⟨hb1, hb2⟩ := hck
        simp [invoke, callFunc, hfn, hb2]
        intro hbn; simp [hbn] at hb1
      · cases hck
    · refine CallsDIn.mono h4' ?_
      rintro e2 u2 w2 ⟨rfl, v, C2, rfl, hc2⟩
      obtain ⟨r0, j1, j2, j3, rfl, hret⟩ := hret
      obtain ⟨_, u, k1, k2⟩ := lent_fin hbx hret hc2
      exact ⟨u, k1, k2.share j1 j2 j3⟩
  rcases he with rfl | rfl <;> exact key
/-- What was put off. -/
def hidOf : AV → Option (FuncId × List AV)
  | .hid (.fn g cap) => some (g, cap)
  | _ => none
theorem hidOf_some {v : AV} {x : FuncId × List AV} (h : hidOf v = some x) : v = .hid (.fn x.1 x.2) := by
  unfold hidOf at h
  split at h
  · cases h; rfl
  · cases h
/-- At a function's end: what was put off is done by its contract. -/
theorem retSD_mk {n : Nat} {rs : List ResultVar} {nIn : Nat} {r : AV} {bs' : List (List AV)} {e : Exit} {st : St} {g : FuncId} {args : List AV} {bs bs2 : List (List AV)} {r2 : AV} (h : CallsBD P g args bs r2 bs2)
    (hk : (e = .ret ∨ e = .normal) ∧ optP (hidOf (st.s n)) fun x => x.1 = g ∧ callOk P g = true ∧
      optP (lendSt { st with s := upd st.s n (.hid .undef) } x.2 (reach { st with s := upd st.s n (.hid .undef) } 2 (addN [] (x.2.flatMap ptrsA)))) fun L => eqOk (eqLent args bs L)
        (optP (backSt { st with s := upd st.s n (.hid .undef) } none x.2 L.ids L.gs r2 bs2) fun st2 => retSF P rs nIn r bs' e st2)) : retSD P n rs nIn r bs' e st := by
  obtain ⟨he, hk⟩ := hk
  refine ⟨he, ?_⟩
  cases hcap : hidOf (st.s n) with
  | none => rw [hcap] at hk; exact hk.elim
  | some x =>
    rw [hcap] at hk
    obtain ⟨g', cap⟩ := x
    obtain ⟨rfl, hck, hk⟩ := hk
    have hs := hidOf_some hcap
    simp only at hs hk hck
    generalize hL : lendSt { st with s := upd st.s n (.hid .undef) } cap (reach { st with s := upd st.s n (.hid .undef) } 2 (addN [] (cap.flatMap ptrsA))) = oL at hk
    cases oL with
    | none => exact hk.elim
    | some L =>
      obtain ⟨⟨h1, h2⟩, hk⟩ := hk
      generalize hB : backSt { st with s := upd st.s n (.hid .undef) } none cap L.ids L.gs r2 bs2 = oB at hk
      cases oB with
      | none => exact hk.elim
      | some st2 => exact ⟨_, _, hs, hck, _, [], L, r2, bs2, st2, (lendStO_nil ..).trans hL, by rw [h1, h2]; exact h, by rw [sharedO_nil]; exact hB, hk⟩
theorem entryD11 (a : AV) (c : List AV) (n : Nat) : entryD [a] [c] n = ⟨lk [(n, .hid .undef), (0, a)], lkB [(1000000, c)], hasS [], hasS [], hasN [], lkR []⟩ := by
  unfold entryD
  rw [entryB11, upd_lk]
attribute [go_sem] hidOf
end Go.VS
namespace Go.VS
set_option linter.unusedVariables false
set_option linter.unusedSimpArgs false
set_option linter.unusedSectionVars false
open Go
variable {P : Program}
inductive OT where
  | leaf
  | stop
  | br (i : Nat) (t rest : OT)
  | rest (is : List Nat)
def both (a b : Prop) : Prop := a ∧ b
theorem both_mk {a b : Prop} (h : a) (h' : b) : both a b := ⟨h, h'⟩
def VB (P : Program) (n : Nat) (ops : Array Oper) (K : St → Prop) : OT → St → Prop
  | .leaf, st => K st
  | .stop, _ => True
  | .br i t rest, st => both (optP ops[i]? fun o => vguard n ops st o (vopB P n st o) (VB P n ops K t)) (VB P n ops K rest st)
  | .rest is, st => vops P n ops (pickO ops is) st K
def restOk (P : Program) (ops : Array Oper) (A : List Nat) (f : Nat) (listed : Array Bool) (is : List Nat) : Bool :=
  decide (is.length = f) && decide is.Nodup && is.all (fun k => decide (k < ops.size)) && (List.range ops.size).all (fun k => is.contains k == !(listed.getD k false)) && pairsOk P ops A is && tabOk ops A && inB ops is &&
  ((List.range ops.size).all fun k =>
    match ops[k]? with
    | some o => ((dirs o).all fun d => decide (d < ops.size) && d != k) && (!(listed.getD k false) || (dirs o).all fun d => listed.getD d false)
    | none => false)
def treeB (P : Program) (ops : Array Oper) (A : List Nat) : OT → Nat → Array Bool → List Nat → Bool
  | .leaf, _, listed, _ => (Region.ready .any ops listed).isEmpty
  | .stop, f, listed, seen =>
    match f with
    | 0 => false
    | _ + 1 => !(Region.ready .any ops listed).isEmpty && (Region.ready .any ops listed).all fun i => seen.contains i
  | .br i t rest, f, listed, seen =>
    match f with
    | 0 => false
    | f + 1 => treeB P ops A t f (listed.setIfInBounds i true) [] && treeB P ops A rest (f + 1) listed (i :: seen)
  | .rest is, f, listed, _ => restOk P ops A f listed is
theorem rest_any {n : Nat} {ops : Array Oper} {A : List Nat} {K : St → Prop} {f : Nat} {listed : Array Bool} {is : List Nat} {st : St} (hsz : listed.size = ops.size) (h : restOk P ops A f listed is = true) (hv : vops P n ops (pickO ops is) st K) : VAny P n ops K f listed st := by
  simp only [restOk, Bool.and_eq_true, decide_eq_true_eq] at h
  obtain ⟨⟨⟨⟨⟨⟨⟨h1, h2⟩, h3⟩, h4⟩, h5⟩, h6⟩, h7⟩, h8⟩ := h
  have hk8 : ∀ (k : Nat) (o : Oper), ops[k]? = some o → (∀ d ∈ dirs o, d < ops.size ∧ d ≠ k) ∧ (listed.getD k false = true → ∀ d ∈ dirs o, listed.getD d false = true) := fun k o hko => by
    have hk : k < ops.size := (Array.getElem?_eq_some_iff.1 hko).1
    have := List.all_eq_true.1 h8 k (List.mem_range.2 hk)
    rw [hko] at this
    simp only [Bool.and_eq_true, Bool.or_eq_true, Bool.not_eq_true', List.all_eq_true] at this
    refine ⟨fun d hd => by simpa using this.1 d hd, fun hl d hd => ?_⟩
    rcases this.2 with h | h
    · rw [hl] at h; cases h
    · exact h d hd
  refine any_of_order h6 (fun k o hko => (hk8 k o hko).1) f is listed st h1 hsz h2 (fun k hk => ?_) (fun k hk => by simpa using List.all_eq_true.1 h3 k hk) h5 (fun k o hko hl => (hk8 k o hko).2 hl) (vidx_pick is st h7 hv)
  have := List.all_eq_true.1 h4 k (List.mem_range.2 hk)
  have e : is.contains k = !(listed.getD k false) := by simpa using this
  constructor
  · intro hm
    have : is.contains k = true := by simpa using hm
    rw [this] at e
    simpa using e.symm
  · intro hm
    rw [hm] at e
    simpa using e
theorem VB_sound {X : Ent} (hy : YieldOk P X) {ops : Array Oper} {A : List Nat} {K : St → Prop} {Q : Exit → Act → World → Prop} (hK : ∀ st' C' a' w', K st' → Conc X st' C' a' w' → Q .normal a' w') :
    ∀ (t : OT) (f : Nat) (listed : Array Bool) (seen : List Nat) (st : St), listed.size = ops.size → treeB P ops A t f listed seen = true → VB P X.n ops K t st →
    (∀ i ∈ seen, ∀ C a w, Conc X st C a w → wpOpIn (Fr X.round) 0 P ops Q i (wpAnyIn (Fr X.round) 0 P .any ops Q (f - 1) (listed.setIfInBounds i true)) a w) →
    ∀ (C : Ctx) (a : Act) (w : World), Conc X st C a w → wpAnyIn (Fr X.round) 0 P .any ops Q f listed a w
  | .leaf, f, listed, seen, st, hsz, h, hv, hs, C, a, w, hc => by
    have h0 : Region.ready .any ops listed = [] := by simpa [treeB] using h
    cases f with
    | zero => exact ⟨h0, hK st C a w hv hc⟩
    | succ f => exact ⟨fun _ => hK st C a w hv hc, fun i hi => by rw [h0] at hi; cases hi⟩
  | .stop, f, listed, seen, st, hsz, h, hv, hs, C, a, w, hc => by
    cases f with
    | zero => cases h
    | succ f =>
      simp only [treeB, Bool.and_eq_true, Bool.not_eq_true', List.all_eq_true] at h
      refine ⟨fun h0 => ?_, fun i hi => hs i (by simpa using h.2 i hi) C a w hc⟩
      rw [h0] at h; cases h.1
  | .br i t rest, f, listed, seen, st, hsz, h, hv, hs, C, a, w, hc => by
    cases f with
    | zero => cases h
    | succ f =>
      simp only [treeB, Bool.and_eq_true] at h
      obtain ⟨h1, h2⟩ := hv
      refine VB_sound hy hK rest (f + 1) listed (i :: seen) st hsz h.2 h2 (fun j hj C a w hc => ?_) C a w hc
      rcases List.mem_cons.1 hj with rfl | hj
      · cases e : ops[j]? with
        | none => rw [e] at h1; exact h1.elim
        | some o =>
          rw [e] at h1
          exact vguardB_sound hy e h1 hc fun st' C' a' w' h' hc' => VB_sound hy hK t f _ [] st' (by simpa using hsz) h.1 h' (fun k hk => by cases hk) C' a' w' hc'
      · exact hs j hj C a w hc
  | .rest is, f, listed, seen, st, hsz, h, hv, hs, C, a, w, hc => VAny_sound hK f listed st (rest_any hsz h hv) C a w hc
theorem AWP.regionTB {X : Ent} {ks : List Nat} {id : Nat} {ops : Array Oper} {Q : Exit → St → Prop} {st : St} (A : List Nat) (tr : OT) (hm : P.follows .mixedOrders = true) (ho : treeB P ops A tr ops.size (Array.replicate ops.size false) [] = true)
    (h : VB P X.n ops (fun s => Q .normal (norm ks s)) tr st) : AWP P X (.region id ops true) Q st := by
  intro hy C a w hc
  refine wpIn_region_any hm ?_
  have hc' : Conc X st C a { w with drawn := w.drawn + 1 } := hc.same rfl rfl rfl rfl
  refine VB_sound hy (K := fun s => Q .normal (norm ks s)) (fun st' C' a' w' hq hc'' => ?_) tr _ _ [] st (by simp) ho h (fun i hi => by cases hi) C a _ hc'
  obtain ⟨C2, h2⟩ := hc''.norm ks
  exact ⟨_, C2, hq, h2⟩
/-- A region that draws its order, by its tree. -/
inductive Rt (P : Program) (X : Ent) (ks : List Nat) (tr : OT) (id : Nat) (ops : Array Oper) : Prop → Prop → Prop
  | s {y : Code} {Q : Exit → St → Prop} {st : St} : Rt P X ks tr id ops (AWP P X (.seq (.region id ops true) y) Q st) (∀ K : St → Prop, (∀ s, AWP P X y Q s → K s) → VB P X.n ops (fun s => K (norm ks s)) tr st)
  | l {Q : Exit → St → Prop} {st : St} : Rt P X ks tr id ops (AWP P X (.region id ops true) Q st) (∀ K : St → Prop, (∀ s, Q .normal s → K s) → VB P X.n ops (fun s => K (norm ks s)) tr st)
theorem Rt.go {X : Ent} (id : Nat) (ks A : List Nat) (tr : OT) {ops : Array Oper} {p q : Prop} (hm : P.follows .mixedOrders = true) (r : Rt P X ks tr id ops p q) (ho : treeB P ops A tr ops.size (Array.replicate ops.size false) [] = true) (h : q) : p := by
  cases r with
  | s => exact AWP.seq (AWP.regionTB A tr hm ho (h _ fun _ hs => hs))
  | l => exact AWP.regionTB A tr hm ho (h _ fun _ hs => hs)
theorem VB_stop (n : Nat) (ops : Array Oper) (K : St → Prop) (s : Nat → AV) (b : Nat → Option (List AV)) (c f : Stamp → Bool) (m : Nat → Bool) (r : Nat → Option Stamp) : VB P n ops K .stop (St.mk s b c f m r) = True := rfl
theorem VB_rest (n : Nat) (ops : Array Oper) (K : St → Prop) (is : List Nat) (s : Nat → AV) (b : Nat → Option (List AV)) (c f : Stamp → Bool) (m : Nat → Bool) (r : Nat → Option Stamp) : VB P n ops K (.rest is) (St.mk s b c f m r) = vops P n ops (pickO ops is) (St.mk s b c f m r) K := rfl
theorem VB_br (n : Nat) (ops : Array Oper) (K : St → Prop) (i : Nat) (t rest : OT) (s : Nat → AV) (b : Nat → Option (List AV)) (c f : Stamp → Bool) (m : Nat → Bool) (r : Nat → Option Stamp) :
    VB P n ops K (.br i t rest) (St.mk s b c f m r) = both (optP ops[i]? fun o => vguard n ops (St.mk s b c f m r) o (vopB P n (St.mk s b c f m r) o) (VB P n ops K t)) (VB P n ops K rest (St.mk s b c f m r)) := rfl
theorem both_true (a : Prop) : both a True = a := by simp [both]
attribute [go_sem] VB_stop VB_rest VB_br both_true
end Go.VS
