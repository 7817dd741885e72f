/- Part of a framework that states what Go functions answer on values as data; it holds for every program of the model. -/
import Derived.Test.YtfemncfhiihckaaDoorVsLift
import Derived.Handed
import Derived.LaidHandle
import Derived.Lib.LaidU8
namespace Go.VS
set_option linter.unusedVariables false
set_option linter.unusedSimpArgs false
set_option linter.unusedSectionVars false
open Go Go.ChangeShapes Go.WideShapes Go.ChangeAt Go.RowKit
/-- A law that answers true whatever its arguments are, over what the row says of the library's tables. -/
theorem row_laid {a : Assume} {C : Checked} {os : Os} {f : FuncId} {fn : Func} {s : ChangeSpec} {conds : List PathCond} {fresh handsOn : Bool} {laid : List (String × DataW Unit)} {H : Type} {enc : TypeId × Value → H} (ts : List TypeId) (tb : TypeId)
    (own : ownKnob C.prog.godebug = none) (started : os.Started) (noInit : C.prog.inits.idxOf? f = none) (hfn : C.prog.funcs[f]? = some fn)
    (witness : ∃ (w : World) (tape : Tape) (i : Input), w.os = os ∧ (w.forCall tape i).Shaped C.prog ∧ i.vars = [] ∧ Input.okWide C.prog (w.forCall tape i) .any w.heap.size f i ∧
      ((s.pre enc C.prog fn conds false (w.forCall tape i).memory i.args ∧ laidMetH C.prog laid (w.forCall tape i).memory) ∧ sizedMet enc C.prog fn (OpenSpec.ofChange s) false (w.forCall tape i).memory i.args) ∧ a.holds C.prog (lone (Frame.enter C.prog f i.args .normal) [] (w.forCall tape i)))
    (hvars : s.vars = []) (hres : fn.resultTypes = #[tb]) (htb : C.prog.underlying tb = some .bool) (hl : laidOutB C.prog = true) (hm : mapsRowed C.prog = true) (hsl : slicesB C.prog = true)
    (hts : plainTs C.prog ts = true) (hpar : (fn.params.toList.all fun t => ts.contains t && decide (t < C.prog.types.size)) = true)
    (hspec : ∀ ds : List (DataW H), ds.length = fn.params.toList.length → s.fn H ds = { results := [.lit (.bool true)], args := ds })
    (hlh : (laid.filter fun x => x.2.handleName?.isSome) = [])
    (htab : ∀ W : World, laidMet C.prog laid W → tblOk W fun b => b < W.heap.size)
    (contract : ∀ xs : List AV, argsFit C.prog fn.params.toList xs → CallsP C.prog f xs (.bool true)) :
    ReturnsInHanded a C os f .any (fun w args => (s.pre enc C.prog fn conds false w args ∧ laidMetH C.prog laid w) ∧ sizedMet enc C.prog fn (OpenSpec.ofChange s) false w args) (s.post enc C.prog fn false fresh handsOn false) := by
  have eL : ∀ w, laidMetH C.prog laid w = laidMet C.prog laid w := fun w => by unfold laidMetH; rw [hlh]
  refine returnsInHanded_of_change_and (X := fun w _ => laidMetH C.prog laid w) (fun w w' _ hh h => (eL w').symm ▸ (laidMet.of_heap hh (eL w ▸ h))) own started noInit hfn witness ?_
  intro W base args ds gs before hval hW hcnd hsz0 hL _
  have hlt := DataW.Whole.lt hW
  have hW' := hW
  obtain ⟨p, q, hA, hV, rfl, hfz, hnd⟩ := hW
  rw [hvars] at hV
  obtain ⟨rfl, rfl⟩ := trodVars_none hV
  have hall : ∀ t ∈ fn.params.toList, t ∈ ts ∧ t < C.prog.types.size := fun t ht => by
    have := List.all_eq_true.1 hpar t ht
    simpa using this
  obtain ⟨xs, h1, h2, h3⟩ := args_data hts (fun t ht => (hall t ht).1) (fun j t v hj hj' => hval j t v (by simpa using hj) (by simpa using hj')) hA (fun z h => by simpa using List.all_eq_true.1 hsz0 z h)
  refine (contract xs h1 W (fun b => b < W.heap.size) args.toList (htab W (eL W ▸ hL)) (fun b hb => hb) h2).mono fun e W' hpost => ?_
  obtain ⟨v, C', he, hr, hm', _, _⟩ := hpost
  have hb := below_of hm'
  simp only [Rep] at hr
  subst hr
  have hst : DataW.TrodAll enc C.prog W' 0 (fun b => decide (b < W.heap.size)) true fn.params.toList args.toList ds (p) :=
    trodAll_stays hl hm hsl (fun t ht => (hall t ht).2) hA (fun p hp => hb.same (hlt p (by simpa using hp))) (fun p hp => by simpa using hlt p (by simpa using hp))
  have hs := hspec (ds ++ []) (by simpa using h3)
  refine ⟨_, he, ds, [], _, [], _, [], hW', ?_, by rw [hs]; simpa using hst, by rw [hs, hvars]; rfl, hb.frame _, fun h => by cases h⟩
  rw [hs, hres]
  exact trodAll_mk1 (shut_bool htb _)
/-- A row of numbers in cells. -/
theorem repL_nums {w : World} {Sh : Nat → Prop} : ∀ l : List Nat, RepL w Sh (l.map fun (n : Nat) => AV.int .u8 (n : Int)) (l.map fun (n : Nat) => Value.int .u8 (n : Int))
  | [] => rfl
  | n :: l => ⟨_, _, rfl, rfl, rfl, repL_nums l⟩
theorem cell_lt {w : World} {b o : Nat} {sp : Option Nat} {v : Value} (h : w.cell? ⟨b, o, sp⟩ = some v) : b < w.heap.size := by
  unfold World.cell? at h
  simp only at h
  split at h <;> rename_i e
  all_goals first | (exact (Array.getElem?_eq_some_iff.1 e).1) | cases h
/-- A variable that holds these numbers. -/
theorem tab_of_cells {w : World} {g : Nat} (l : List Nat) (hl : 0 < l.length) (h : ∀ i, i < l.length → w.cell? ⟨g, i, none⟩ = some (.int .u8 (l.getD i 0 : Nat))) :
    (g < w.heap.size) ∧ 0 < (l.map fun (n : Nat) => AV.int .u8 (n : Int)).length ∧ ∃ vs, cellsAt w g 0 vs ∧ RepL w (fun b => b < w.heap.size) (l.map fun (n : Nat) => AV.int .u8 (n : Int)) vs := by
  refine ⟨cell_lt (h 0 hl), by simpa using hl, l.map fun (n : Nat) => Value.int .u8 (n : Int), fun j v hj => ?_, repL_nums l⟩
  have hj' : j < l.length := by
    have := (List.getElem?_eq_some_iff.1 hj).1
    simpa using this
  rw [List.getElem?_map, List.getElem?_eq_getElem hj'] at hj
  simp only [Option.map_some, Option.some.injEq] at hj
  subst hj
  have := h j hj'
  rw [List.getD_eq_getElem?_getD, List.getElem?_eq_getElem hj'] at this
  simpa using this
end Go.VS
