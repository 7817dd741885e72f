/- Part of a framework that states what Go functions answer on values as data; it holds for every program of the model. -/
import Derived.Test.YtijcpdgfbboamaaDoorVsArg
namespace Go.VS
set_option linter.unusedVariables false
set_option linter.unusedSimpArgs false
set_option linter.unusedSectionVars false
open Go Go.ChangeShapes Go.WideShapes Go.ChangeAt Go.RowKit

def argsFit (P : Program) : List TypeId → List AV → Prop
  | [], as => as = []
  | t :: ts, as => ∃ a r, as = a :: r ∧ (∃ n, argOk P n t a) ∧ argsFit P ts r

theorem args_data {P : Program} {H : Type} {enc : TypeId × Value → H} {w : World} {held : Bool} {ts : List TypeId} (hts : plainTs P ts = true) {r : Reach} {base : Nat} : ∀ {us : List TypeId} {vs : List Value} {ds : List (DataW H)} {ps : List MemPlace},
    (∀ t ∈ us, t ∈ ts) → (∀ (j : Nat) t v, us[j]? = some t → vs[j]? = some v → Value.okWide P w r base t v) → DataW.TrodAll enc P w 0 (fun _ => true) held us vs ds ps →
    ∃ as, argsFit P us as ∧ (as.length = vs.length ∧ ∀ (i : Nat) (a : AV) (v : Value), as[i]? = some a → vs[i]? = some v → RepF w (fun b => b < w.heap.size) a v) ∧ ds.length = us.length
  | [], vs, ds, ps, _, _, h => by
    obtain ⟨rfl, rfl, rfl⟩ := trodAll_nil h
    exact ⟨[], rfl, ⟨rfl, fun i a v hi => by simp at hi⟩, rfl⟩
  | t :: us, vs, ds, ps, hu, hv, h => by
    obtain ⟨v, vs', d, ds', p, q, rfl, rfl, rfl, h0, h1⟩ := trodAll_cons h
    obtain ⟨n, a, ha, hr⟩ := arg_data hts (hu t (by simp)) (hv 0 t v rfl rfl) h0
    obtain ⟨as, k1, ⟨k2, k3⟩, k4⟩ := args_data hts (fun t ht => hu t (by simp [ht])) (fun j t v hj hj' => hv (j + 1) t v (by simpa using hj) (by simpa using hj')) h1
    refine ⟨a :: as, ⟨a, as, rfl, ⟨n, ha⟩, k1⟩, ⟨by simp [k2], fun i x y hx hy => ?_⟩, by simp [k4]⟩
    cases i with
    | zero => simp at hx hy; subst hx; subst hy; exact hr
    | succ i => exact k3 i x y (by simpa using hx) (by simpa using hy)

/-- A law that answers true whatever its arguments are. -/
theorem row_true {a : Assume} {C : Checked} {os : Os} {f : FuncId} {fn : Func} {s : ChangeSpec} {conds : List PathCond} {fresh handsOn : Bool} {H : Type} {enc : TypeId × Value → H} (ts : List TypeId) (tb : TypeId)
    (own : ownKnob C.prog.godebug = none) (started : os.Started) (noInit : C.prog.inits.idxOf? f = none) (hfn : C.prog.funcs[f]? = some fn)
    (witness : ∃ (w : World) (tape : Tape) (i : Input), w.os = os ∧ (w.forCall tape i).Shaped C.prog ∧ i.vars = [] ∧ Input.okWide C.prog (w.forCall tape i) .any w.heap.size f i ∧
      s.pre6 enc C.prog fn conds false (w.forCall tape i).memory i.args ∧ a.holds C.prog (lone (Frame.enter C.prog f i.args .normal) [] (w.forCall tape i)))
    (hvars : s.vars = []) (hres : fn.resultTypes = #[tb]) (htb : C.prog.underlying tb = some .bool) (hl : laidOutB C.prog = true) (hm : mapsRowed C.prog = true) (hsl : slicesB C.prog = true)
    (hts : plainTs C.prog ts = true) (hpar : (fn.params.toList.all fun t => ts.contains t && decide (t < C.prog.types.size)) = true)
    (hspec : ∀ ds : List (DataW H), ds.length = fn.params.toList.length → s.fn H ds = { results := [.lit (.bool true)], args := ds })
    (htab : ∀ W : World, tblOk W fun b => b < W.heap.size)
    (contract : ∀ as : List AV, argsFit C.prog fn.params.toList as → CallsP C.prog f as (.bool true)) :
    ReturnsInHanded a C os f .any (s.pre6 enc C.prog fn conds false) (s.post enc C.prog fn false fresh handsOn false) := by
  refine returnsInHanded_of_change_sized own started noInit hfn witness ?_
  intro W base args ds gs before hval hW hcnd hsz0 _
  have hlt := DataW.Whole.lt hW
  have hW' := hW
  obtain ⟨p, q, hA, hV, rfl, hfz, hnd⟩ := hW
  rw [hvars] at hV
  obtain ⟨rfl, rfl⟩ := trodVars_none hV
  have hall : ∀ t ∈ fn.params.toList, t ∈ ts ∧ t < C.prog.types.size := fun t ht => by
    have := List.all_eq_true.1 hpar t ht
    simpa using this
  obtain ⟨as, h1, h2, h3⟩ := args_data hts (fun t ht => (hall t ht).1) (fun j t v hj hj' => hval j t v (by simpa using hj) (by simpa using hj')) hA
  refine (contract as h1 W (fun b => b < W.heap.size) args.toList (htab W) (fun b hb => hb) h2).mono fun e W' hpost => ?_
  obtain ⟨v, C', he, hr, hm', _, _⟩ := hpost
  have hb := below_of hm'
  simp only [Rep] at hr
  subst hr
  have hst : DataW.TrodAll enc C.prog W' 0 (fun b => decide (b < W.heap.size)) true fn.params.toList args.toList ds (p) :=
    trodAll_stays hl hm hsl (fun t ht => (hall t ht).2) hA (fun p hp => hb.same (hlt p (by simpa using hp))) (fun p hp => by simpa using hlt p (by simpa using hp))
  have hs := hspec (ds ++ []) (by simpa using h3)
  refine ⟨_, he, ds, [], _, [], _, [], hW', ?_, by rw [hs]; simpa using hst, by rw [hs, hvars]; rfl, hb.frame _, fun h => by cases h⟩
  rw [hs, hres]
  exact trodAll_mk1 (shut_bool htb _)
end Go.VS
