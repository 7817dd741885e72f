/- From what a row says of utf8's two tables to what the walks ask; a world in which they lie. -/
import Derived.Test.YtfemncfhiihckaaDoorVsLaid
import Derived.Test.YtfemncfhiihckaaDoorRows
import Derived.Lib.LaidIn
namespace Go.Proofs.YtfemncfhiihckaaDoor
open Go Go.VS Go.ChangeShapes Go.WideShapes Go.ChangeAt Go.RowKit Go.Lib
set_option linter.unusedVariables false
abbrev doorLaid : List (String × DataW Unit) := [("unicode/utf8.acceptRanges", Rows.laid_unicode_utf8_acceptRanges), ("unicode/utf8.first", Rows.laid_unicode_utf8_first)]
theorem own : ownKnob Tryd.prog.godebug = none := by kernel_rfl
theorem dcells5 : Tryd.prog.cellsOf 5 = 1 := by kernel_rfl
theorem dcells111 : Tryd.prog.cellsOf 111 = 256 := by kernel_rfl
theorem dcells113 : Tryd.prog.cellsOf 113 = 2 := by kernel_rfl
theorem dname0 : Tryd.prog.globalNamed "unicode/utf8.first" = some 0 := by kernel_rfl
theorem dname1 : Tryd.prog.globalNamed "unicode/utf8.acceptRanges" = some 1 := by kernel_rfl
theorem dtype0 : (Tryd.prog.globals[0]?).map (·.type) = some 111 := by kernel_rfl
theorem dtype1 : (Tryd.prog.globals[1]?).map (·.type) = some 114 := by kernel_rfl
theorem dfirst_eq : Rows.laid_unicode_utf8_first = tabData .u8 (firstN.map fun (n : Nat) => (n : Int)) := by kernel_rfl
theorem daccept_eq : (Rows.laid_unicode_utf8_acceptRanges : DataW Unit) = .agg ((List.range 16).map fun i => .agg ([((acceptN.getD (2 * i) 0 : Nat) : Int), ((acceptN.getD (2 * i + 1) 0 : Nat) : Int)].map fun z => .lit (.int .u8 z))) := by kernel_rfl
theorem dfirst_len : firstN.length = 256 := by kernel_rfl
theorem daccept_len : acceptN.length = 32 := by kernel_rfl
theorem dfirst_cells {w : World} (h : laidMet Tryd.prog doorLaid w) : ∀ i, i < firstN.length → w.cell? ⟨0, i, none⟩ = some (.int .u8 (firstN.getD i 0 : Nat)) := by
  intro i hi
  obtain ⟨g, t, cs, fuel, p, hg, hty, hvar, hd⟩ := Lib.laidMet.reads h (n := "unicode/utf8.first") (d := Rows.laid_unicode_utf8_first) (.tail _ (.head _))
  obtain rfl := Option.some.inj (dname0.symm.trans hg)
  obtain rfl := Option.some.inj (dtype0.symm.trans hty)
  rw [dfirst_eq] at hd
  have hcs := cells_of_tab Tryd.underlying111 Tryd.underlying5 dcells5 dcells111 hd
  rw [World.var?_cell hg hvar i, ← Array.getElem?_toList, hcs, List.getElem?_map, List.getElem?_map, List.getD_eq_getElem?_getD, List.getElem?_eq_getElem hi]
  rfl
theorem daccept_cells {w : World} (h : laidMet Tryd.prog doorLaid w) : ∀ i, i < acceptN.length → w.cell? ⟨1, i, none⟩ = some (.int .u8 (acceptN.getD i 0 : Nat)) := by
  intro j hj
  rw [daccept_len] at hj
  obtain ⟨g, t, cs, fuel, p, hg, hty, hvar, hd⟩ := Lib.laidMet.reads h (n := "unicode/utf8.acceptRanges") (d := Rows.laid_unicode_utf8_acceptRanges) (.head _)
  obtain rfl := Option.some.inj (dname1.symm.trans hg)
  obtain rfl := Option.some.inj (dtype1.symm.trans hty)
  rw [daccept_eq] at hd
  have hi : j / 2 < 16 := by omega
  obtain ⟨fuel', d, q, hdi, he⟩ := array_elem Tryd.underlying114 hd (j / 2) hi
  simp only [List.getElem?_map, List.getElem?_range hi, Option.map_some, Option.some.injEq] at hdi
  subst hdi
  rw [dcells113] at he
  have hcs := ints_of_struct Tryd.underlying113 (fun j f hj => by
    match j, hj with
    | 0, hj => simp at hj; subst hj; exact ⟨Tryd.underlying5, rfl, dcells5⟩
    | 1, hj => simp at hj; subst hj; exact ⟨Tryd.underlying5, rfl, dcells5⟩
    | j + 2, hj => simp at hj) (by rw [dcells113]; rfl) he
  have e0 := congrArg (·[0]?) hcs
  have e1 := congrArg (·[1]?) hcs
  simp only [List.getElem?_take, List.getElem?_drop] at e0 e1
  rw [World.var?_cell hg hvar j, ← Array.getElem?_toList]
  rcases Nat.mod_two_eq_zero_or_one j with hm | hm
  · have ej : j = 2 * (j / 2) := by omega
    have e : acceptN.getD (2 * (j / 2)) 0 = acceptN.getD j 0 := by rw [← ej]
    rw [e] at e0
    have e2 : j / 2 * 2 + 0 = j := by omega
    rw [e2] at e0
    simpa using e0
  · have ej : j = 2 * (j / 2) + 1 := by omega
    have e : acceptN.getD (2 * (j / 2) + 1) 0 = acceptN.getD j 0 := by rw [← ej]
    rw [e] at e1
    have e2 : j / 2 * 2 + 1 = j := by omega
    rw [e2] at e1
    simpa using e1
theorem tabs (w : World) (h : laidMet Tryd.prog doorLaid w) : tblOk w fun b => b < w.heap.size := by
  intro g cs hg
  match g, hg with
  | 0, hg =>
    have e := Option.some.inj hg
    subst e
    exact tab_of_cells firstN (by rw [dfirst_len]; omega) (dfirst_cells h)
  | 1, hg =>
    have e := Option.some.inj hg
    subst e
    exact tab_of_cells acceptN (by rw [daccept_len]; omega) (daccept_cells h)
  | g + 2, hg => cases hg
/-- A world in which the two tables lie. -/
noncomputable def laidWorld (os : Os) : World :=
  let w0 := World.holding Tryd.prog os ⟨#[], #[], []⟩
  let put (h : Array Obj) (g : Nat) (cs : Array Value) : Array Obj := h.modify g fun
    | .cells _ t frozen => .cells cs t frozen
    | o => o
  let h1 := put w0.heap 0 (firstN.map fun (n : Nat) => Value.int .u8 n).toArray
  let h2 := put h1 1 (acceptN.map fun (n : Nat) => Value.int .u8 n).toArray
  { w0 with heap := h2 }
theorem laid_met (os : Os) (args : Array Value) : laidMetH Tryd.prog doorLaid ((laidWorld os).forCall (fun _ _ => 0) ⟨#[], args, []⟩).memory := by
  show laidMet Tryd.prog doorLaid _
  exact (LaidIn.of_run (l := doorLaid) [0, 1] 8 (by kernel_rfl) (by kernel_rfl) (by kernel_rfl) (by kernel_rfl)).met
end Go.Proofs.YtfemncfhiihckaaDoor
