/- The types of the program as the walks use them: what their sizes and zero values are. -/
import Derived.Test.YtfemncfhiihckaaDoorVsSimp
import Derived.Test.YtfemncfhiihckaaDoorRows
import Derived.KernelRfl
open Go Go.VS
namespace Go.Proofs.YtfemncfhiihckaaDoor
theorem ty3 : Tryd.prog.bytesOf 3 = 8 ∧ Tryd.prog.cellsOf 3 = 1 ∧ Tryd.prog.isAggT 3 = false ∧ (Tryd.prog.info? 3).isSome = true ∧ Tryd.prog.rowOk 3 = true ∧ zeroElem Tryd.prog 3 = some (.int .i64 0) ∧ zeroAV Tryd.prog 3 = some [(.int .i64 0)] := ⟨by kernel_rfl, by kernel_rfl, by kernel_rfl, by kernel_rfl, by kernel_rfl, by kernel_rfl, by kernel_rfl⟩
theorem ty4 : Tryd.prog.bytesOf 4 = 1 ∧ Tryd.prog.cellsOf 4 = 1 ∧ Tryd.prog.isAggT 4 = false ∧ (Tryd.prog.info? 4).isSome = true ∧ Tryd.prog.rowOk 4 = true ∧ Tryd.prog.isBoolT 4 = true ∧ zeroElem Tryd.prog 4 = some (.bool false) ∧ zeroAV Tryd.prog 4 = some [(.bool false)] := ⟨by kernel_rfl, by kernel_rfl, by kernel_rfl, by kernel_rfl, by kernel_rfl, by kernel_rfl, by kernel_rfl, by kernel_rfl⟩
theorem ty5 : Tryd.prog.bytesOf 5 = 1 ∧ Tryd.prog.cellsOf 5 = 1 ∧ Tryd.prog.isAggT 5 = false ∧ (Tryd.prog.info? 5).isSome = true ∧ Tryd.prog.rowOk 5 = true ∧ zeroElem Tryd.prog 5 = some (.int .u8 0) ∧ zeroAV Tryd.prog 5 = some [(.int .u8 0)] := ⟨by kernel_rfl, by kernel_rfl, by kernel_rfl, by kernel_rfl, by kernel_rfl, by kernel_rfl, by kernel_rfl⟩
theorem ty9 : Tryd.prog.bytesOf 9 = 16 ∧ Tryd.prog.cellsOf 9 = 1 ∧ Tryd.prog.isAggT 9 = false ∧ (Tryd.prog.info? 9).isSome = true ∧ Tryd.prog.rowOk 9 = true ∧ zeroElem Tryd.prog 9 = some (.str []) ∧ zeroAV Tryd.prog 9 = some [(.str [])] := ⟨by kernel_rfl, by kernel_rfl, by kernel_rfl, by kernel_rfl, by kernel_rfl, by kernel_rfl, by kernel_rfl⟩
theorem ty25 : Tryd.prog.bytesOf 25 = 24 ∧ Tryd.prog.cellsOf 25 = 1 ∧ Tryd.prog.elemCells 25 = 1 ∧ Tryd.prog.isAggT 25 = false ∧ (Tryd.prog.info? 25).isSome = true ∧ Tryd.prog.rowOk 25 = true ∧ zeroElem Tryd.prog 25 = some (.sl none true 1 []) ∧ zeroAV Tryd.prog 25 = some [(.sl none true 1 [])] := ⟨by kernel_rfl, by kernel_rfl, by kernel_rfl, by kernel_rfl, by kernel_rfl, by kernel_rfl, by kernel_rfl, by kernel_rfl⟩
theorem ty26 : Tryd.prog.bytesOf 26 = 24 ∧ Tryd.prog.cellsOf 26 = 1 ∧ Tryd.prog.elemCells 26 = 1 ∧ Tryd.prog.isAggT 26 = false ∧ (Tryd.prog.info? 26).isSome = true ∧ Tryd.prog.rowOk 26 = true ∧ zeroElem Tryd.prog 26 = some (.sl none true 1 []) ∧ zeroAV Tryd.prog 26 = some [(.sl none true 1 [])] := ⟨by kernel_rfl, by kernel_rfl, by kernel_rfl, by kernel_rfl, by kernel_rfl, by kernel_rfl, by kernel_rfl, by kernel_rfl⟩
theorem ty29 : Tryd.prog.bytesOf 29 = 24 ∧ Tryd.prog.cellsOf 29 = 1 ∧ Tryd.prog.elemCells 29 = 1 ∧ Tryd.prog.isAggT 29 = false ∧ (Tryd.prog.info? 29).isSome = true ∧ Tryd.prog.rowOk 29 = true ∧ zeroElem Tryd.prog 29 = some (.sl none true 1 []) ∧ zeroAV Tryd.prog 29 = some [(.sl none true 1 [])] := ⟨by kernel_rfl, by kernel_rfl, by kernel_rfl, by kernel_rfl, by kernel_rfl, by kernel_rfl, by kernel_rfl, by kernel_rfl⟩
theorem ty33 : Tryd.prog.bytesOf 33 = 24 ∧ Tryd.prog.cellsOf 33 = 1 ∧ Tryd.prog.elemCells 33 = 4 ∧ Tryd.prog.isAggT 33 = false ∧ (Tryd.prog.info? 33).isSome = true ∧ Tryd.prog.rowOk 33 = true ∧ zeroElem Tryd.prog 33 = some (.sl none true 4 []) ∧ zeroAV Tryd.prog 33 = some [(.sl none true 4 [])] := ⟨by kernel_rfl, by kernel_rfl, by kernel_rfl, by kernel_rfl, by kernel_rfl, by kernel_rfl, by kernel_rfl, by kernel_rfl⟩
theorem ty34 : Tryd.prog.bytesOf 34 = 8 ∧ Tryd.prog.cellsOf 34 = 1 ∧ Tryd.prog.isAggT 34 = false ∧ (Tryd.prog.info? 34).isSome = true ∧ Tryd.prog.rowOk 34 = true ∧ zeroElem Tryd.prog 34 = some (.int .i64 0) ∧ zeroAV Tryd.prog 34 = some [(.int .i64 0)] := ⟨by kernel_rfl, by kernel_rfl, by kernel_rfl, by kernel_rfl, by kernel_rfl, by kernel_rfl, by kernel_rfl⟩
theorem ty40 : Tryd.prog.bytesOf 40 = 1 ∧ Tryd.prog.cellsOf 40 = 1 ∧ Tryd.prog.isAggT 40 = false ∧ (Tryd.prog.info? 40).isSome = true ∧ Tryd.prog.rowOk 40 = true ∧ zeroElem Tryd.prog 40 = some (.int .u8 0) ∧ zeroAV Tryd.prog 40 = some [(.int .u8 0)] := ⟨by kernel_rfl, by kernel_rfl, by kernel_rfl, by kernel_rfl, by kernel_rfl, by kernel_rfl, by kernel_rfl⟩
theorem ty42 : Tryd.prog.bytesOf 42 = 72 ∧ Tryd.prog.cellsOf 42 = 4 ∧ Tryd.prog.isAggT 42 = true ∧ (Tryd.prog.info? 42).isSome = true ∧ Tryd.prog.rowOk 42 = true ∧ zeroElem Tryd.prog 42 = some (.agg [(.int .u8 0), (.str []), (.sl none true 1 []), (.sl none true 1 [])]) ∧ zeroAV Tryd.prog 42 = some [(.int .u8 0), (.str []), (.sl none true 1 []), (.sl none true 1 [])] := ⟨by kernel_rfl, by kernel_rfl, by kernel_rfl, by kernel_rfl, by kernel_rfl, by kernel_rfl, by kernel_rfl⟩
theorem ty52 : Tryd.prog.bytesOf 52 = 5 ∧ Tryd.prog.cellsOf 52 = 5 ∧ Tryd.prog.isAggT 52 = true ∧ (Tryd.prog.info? 52).isSome = true ∧ Tryd.prog.rowOk 52 = true ∧ zeroElem Tryd.prog 52 = some (.agg [(.int .u8 0), (.int .u8 0), (.int .u8 0), (.int .u8 0), (.int .u8 0)]) ∧ zeroAV Tryd.prog 52 = some [(.int .u8 0), (.int .u8 0), (.int .u8 0), (.int .u8 0), (.int .u8 0)] := ⟨by kernel_rfl, by kernel_rfl, by kernel_rfl, by kernel_rfl, by kernel_rfl, by kernel_rfl, by kernel_rfl⟩
theorem ty57 : Tryd.prog.bytesOf 57 = 80 ∧ Tryd.prog.cellsOf 57 = 6 ∧ Tryd.prog.isAggT 57 = true ∧ (Tryd.prog.info? 57).isSome = true ∧ Tryd.prog.rowOk 57 = true ∧ zeroElem Tryd.prog 57 = some (.agg [(.str []), (.str []), (.sl none true 1 []), (.bool false), (.bool false), (.str [])]) ∧ zeroAV Tryd.prog 57 = some [(.str []), (.str []), (.sl none true 1 []), (.bool false), (.bool false), (.str [])] := ⟨by kernel_rfl, by kernel_rfl, by kernel_rfl, by kernel_rfl, by kernel_rfl, by kernel_rfl, by kernel_rfl⟩
theorem ty66 : Tryd.prog.bytesOf 66 = 8 ∧ Tryd.prog.cellsOf 66 = 1 ∧ Tryd.prog.isAggT 66 = false ∧ (Tryd.prog.info? 66).isSome = true ∧ Tryd.prog.rowOk 66 = true ∧ Tryd.prog.isPtrT 66 = true ∧ zeroElem Tryd.prog 66 = some .nilp ∧ zeroAV Tryd.prog 66 = some [.nilp] := ⟨by kernel_rfl, by kernel_rfl, by kernel_rfl, by kernel_rfl, by kernel_rfl, by kernel_rfl, by kernel_rfl, by kernel_rfl⟩
theorem ty68 : Tryd.prog.bytesOf 68 = 72 ∧ Tryd.prog.cellsOf 68 = 5 ∧ Tryd.prog.isAggT 68 = true ∧ (Tryd.prog.info? 68).isSome = true ∧ Tryd.prog.rowOk 68 = true ∧ zeroElem Tryd.prog 68 = some (.agg [(.sl none true 1 []), (.int .i64 0), (.int .i64 0), (.sl none true 4 []), (.int .i64 0)]) ∧ zeroAV Tryd.prog 68 = some [(.sl none true 1 []), (.int .i64 0), (.int .i64 0), (.sl none true 4 []), (.int .i64 0)] := ⟨by kernel_rfl, by kernel_rfl, by kernel_rfl, by kernel_rfl, by kernel_rfl, by kernel_rfl, by kernel_rfl⟩
theorem ty104 : Tryd.prog.bytesOf 104 = 24 ∧ Tryd.prog.cellsOf 104 = 2 ∧ Tryd.prog.isAggT 104 = true ∧ (Tryd.prog.info? 104).isSome = true ∧ Tryd.prog.rowOk 104 = true ∧ zeroElem Tryd.prog 104 = some (.agg [(.str []), (.int .u8 0)]) ∧ zeroAV Tryd.prog 104 = some [(.str []), (.int .u8 0)] := ⟨by kernel_rfl, by kernel_rfl, by kernel_rfl, by kernel_rfl, by kernel_rfl, by kernel_rfl, by kernel_rfl⟩
theorem ty113 : Tryd.prog.bytesOf 113 = 2 ∧ Tryd.prog.cellsOf 113 = 2 ∧ Tryd.prog.isAggT 113 = true ∧ (Tryd.prog.info? 113).isSome = true ∧ Tryd.prog.rowOk 113 = true ∧ zeroElem Tryd.prog 113 = some (.agg [(.int .u8 0), (.int .u8 0)]) ∧ zeroAV Tryd.prog 113 = some [(.int .u8 0), (.int .u8 0)] := ⟨by kernel_rfl, by kernel_rfl, by kernel_rfl, by kernel_rfl, by kernel_rfl, by kernel_rfl, by kernel_rfl⟩
theorem ok17 : callOk Tryd.prog 17 = true := by kernel_rfl
theorem ok20 : callOk Tryd.prog 20 = true := by kernel_rfl
theorem ok24 : callOk Tryd.prog 24 = true := by kernel_rfl
theorem ok26 : callOk Tryd.prog 26 = true := by kernel_rfl
theorem ok27 : callOk Tryd.prog 27 = true := by kernel_rfl
theorem ok28 : callOk Tryd.prog 28 = true := by kernel_rfl
theorem ok31 : callOk Tryd.prog 31 = true := by kernel_rfl
theorem ok32 : callOk Tryd.prog 32 = true := by kernel_rfl
theorem ok33 : callOk Tryd.prog 33 = true := by kernel_rfl
theorem ok34 : callOk Tryd.prog 34 = true := by kernel_rfl
theorem ok36 : callOk Tryd.prog 36 = true := by kernel_rfl
theorem ok37 : callOk Tryd.prog 37 = true := by kernel_rfl
theorem ok38 : callOk Tryd.prog 38 = true := by kernel_rfl
theorem ok42 : callOk Tryd.prog 42 = true := by kernel_rfl
theorem ok43 : callOk Tryd.prog 43 = true := by kernel_rfl
theorem ok44 : callOk Tryd.prog 44 = true := by kernel_rfl
theorem ok45 : callOk Tryd.prog 45 = true := by kernel_rfl
theorem ok46 : callOk Tryd.prog 46 = true := by kernel_rfl
theorem ok50 : callOk Tryd.prog 50 = true := by kernel_rfl
theorem ok56 : callOk Tryd.prog 56 = true := by kernel_rfl
theorem ok58 : callOk Tryd.prog 58 = true := by kernel_rfl
theorem ok59 : callOk Tryd.prog 59 = true := by kernel_rfl
theorem ok61 : callOk Tryd.prog 61 = true := by kernel_rfl
theorem ok62 : callOk Tryd.prog 62 = true := by kernel_rfl
theorem ok63 : callOk Tryd.prog 63 = true := by kernel_rfl
theorem ok66 : callOk Tryd.prog 66 = true := by kernel_rfl
theorem ok70 : callOk Tryd.prog 70 = true := by kernel_rfl
theorem ok71 : callOk Tryd.prog 71 = true := by kernel_rfl
theorem ok72 : callOk Tryd.prog 72 = true := by kernel_rfl
theorem ok73 : callOk Tryd.prog 73 = true := by kernel_rfl
theorem ok74 : callOk Tryd.prog 74 = true := by kernel_rfl
theorem mixed : Tryd.prog.follows .mixedOrders = true := by kernel_rfl
attribute [go_sem] ty3 ty4 ty5 ty9 ty25 ty26 ty29 ty33 ty34 ty40 ty42 ty52 ty57 ty66 ty68 ty104 ty113 Tryd.underlying0 Tryd.underlying1 Tryd.underlying3 Tryd.underlying4 Tryd.underlying5 Tryd.underlying9 Tryd.underlying21 Tryd.underlying22 Tryd.underlying24 Tryd.underlying25 Tryd.underlying26 Tryd.underlying27 Tryd.underlying29 Tryd.underlying30 Tryd.underlying33 Tryd.underlying34 Tryd.underlying35 Tryd.underlying40 Tryd.underlying42 Tryd.underlying45 Tryd.underlying52 Tryd.underlying55 Tryd.underlying57 Tryd.underlying58 Tryd.underlying64 Tryd.underlying66 Tryd.underlying68 Tryd.underlying72 Tryd.underlying73 Tryd.underlying75 Tryd.underlying78 Tryd.underlying80 Tryd.underlying82 Tryd.underlying84 Tryd.underlying88 Tryd.underlying89 Tryd.underlying91 Tryd.underlying92 Tryd.underlying96 Tryd.underlying98 Tryd.underlying101 Tryd.underlying104 Tryd.underlying105 Tryd.underlying107 Tryd.underlying111 Tryd.underlying113 Tryd.underlying114 ok17 ok20 ok24 ok26 ok27 ok28 ok31 ok32 ok33 ok34 ok36 ok37 ok38 ok42 ok43 ok44 ok45 ok46 ok50 ok56 ok58 ok59 ok61 ok62 ok63 ok66 ok70 ok71 ok72 ok73 ok74
end Go.Proofs.YtfemncfhiihckaaDoor
