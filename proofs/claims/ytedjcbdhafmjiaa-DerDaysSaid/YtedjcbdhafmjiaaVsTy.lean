/- The types of the program as the walks use them: what their sizes and zero values are. -/
import Derived.Test.YtedjcbdhafmjiaaVsSimp
import Derived.Test.YtedjcbdhafmjiaaRows
import Derived.KernelRfl
open Go Go.VS
namespace Go.Proofs.Ytedjcbdhafmjiaa
theorem ty0 : Try.prog.cellsOf 0 = 1 ∧ Try.prog.isAggT 0 = false ∧ (Try.prog.info? 0).isSome = true ∧ Try.prog.rowOk 0 = true := ⟨by kernel_rfl, by kernel_rfl, by kernel_rfl, by kernel_rfl⟩
theorem ty3 : Try.prog.bytesOf 3 = 8 ∧ Try.prog.cellsOf 3 = 1 ∧ Try.prog.isAggT 3 = false ∧ (Try.prog.info? 3).isSome = true ∧ Try.prog.rowOk 3 = true ∧ zeroElem Try.prog 3 = some (.int .i64 0) ∧ zeroAV Try.prog 3 = some [(.int .i64 0)] := ⟨by kernel_rfl, by kernel_rfl, by kernel_rfl, by kernel_rfl, by kernel_rfl, by kernel_rfl, by kernel_rfl⟩
theorem ty4 : Try.prog.bytesOf 4 = 1 ∧ Try.prog.cellsOf 4 = 1 ∧ Try.prog.isAggT 4 = false ∧ (Try.prog.info? 4).isSome = true ∧ Try.prog.rowOk 4 = true ∧ Try.prog.isBoolT 4 = true ∧ zeroElem Try.prog 4 = some (.bool false) ∧ zeroAV Try.prog 4 = some [(.bool false)] := ⟨by kernel_rfl, by kernel_rfl, by kernel_rfl, by kernel_rfl, by kernel_rfl, by kernel_rfl, by kernel_rfl, by kernel_rfl⟩
theorem ty5 : Try.prog.bytesOf 5 = 1 ∧ Try.prog.cellsOf 5 = 1 ∧ Try.prog.isAggT 5 = false ∧ (Try.prog.info? 5).isSome = true ∧ Try.prog.rowOk 5 = true ∧ zeroElem Try.prog 5 = some (.int .u8 0) ∧ zeroAV Try.prog 5 = some [(.int .u8 0)] := ⟨by kernel_rfl, by kernel_rfl, by kernel_rfl, by kernel_rfl, by kernel_rfl, by kernel_rfl, by kernel_rfl⟩
theorem ty9 : Try.prog.bytesOf 9 = 16 ∧ Try.prog.cellsOf 9 = 1 ∧ Try.prog.isAggT 9 = false ∧ (Try.prog.info? 9).isSome = true ∧ Try.prog.rowOk 9 = true ∧ zeroElem Try.prog 9 = some (.str []) ∧ zeroAV Try.prog 9 = some [(.str [])] := ⟨by kernel_rfl, by kernel_rfl, by kernel_rfl, by kernel_rfl, by kernel_rfl, by kernel_rfl, by kernel_rfl⟩
theorem ty22 : Try.prog.bytesOf 22 = 4 ∧ Try.prog.cellsOf 22 = 1 ∧ Try.prog.isAggT 22 = false ∧ (Try.prog.info? 22).isSome = true ∧ Try.prog.rowOk 22 = true ∧ zeroElem Try.prog 22 = some (.int .u32 0) ∧ zeroAV Try.prog 22 = some [(.int .u32 0)] := ⟨by kernel_rfl, by kernel_rfl, by kernel_rfl, by kernel_rfl, by kernel_rfl, by kernel_rfl, by kernel_rfl⟩
theorem ty25 : Try.prog.bytesOf 25 = 24 ∧ Try.prog.cellsOf 25 = 1 ∧ Try.prog.elemCells 25 = 1 ∧ Try.prog.isAggT 25 = false ∧ (Try.prog.info? 25).isSome = true ∧ Try.prog.rowOk 25 = true ∧ zeroElem Try.prog 25 = some (.sl none true 1 []) ∧ zeroAV Try.prog 25 = some [(.sl none true 1 [])] := ⟨by kernel_rfl, by kernel_rfl, by kernel_rfl, by kernel_rfl, by kernel_rfl, by kernel_rfl, by kernel_rfl, by kernel_rfl⟩
theorem ty27 : Try.prog.bytesOf 27 = 32 ∧ Try.prog.cellsOf 27 = 2 ∧ Try.prog.isAggT 27 = true ∧ (Try.prog.info? 27).isSome = true ∧ Try.prog.rowOk 27 = true ∧ zeroElem Try.prog 27 = some (.agg [(.int .u8 0), (.sl none true 1 [])]) ∧ zeroAV Try.prog 27 = some [(.int .u8 0), (.sl none true 1 [])] := ⟨by kernel_rfl, by kernel_rfl, by kernel_rfl, by kernel_rfl, by kernel_rfl, by kernel_rfl, by kernel_rfl⟩
theorem ty28 : Try.prog.bytesOf 28 = 24 ∧ Try.prog.cellsOf 28 = 1 ∧ Try.prog.elemCells 28 = 1 ∧ Try.prog.isAggT 28 = false ∧ (Try.prog.info? 28).isSome = true ∧ Try.prog.rowOk 28 = true ∧ zeroElem Try.prog 28 = some (.sl none true 1 []) ∧ zeroAV Try.prog 28 = some [(.sl none true 1 [])] := ⟨by kernel_rfl, by kernel_rfl, by kernel_rfl, by kernel_rfl, by kernel_rfl, by kernel_rfl, by kernel_rfl, by kernel_rfl⟩
theorem ty29 : Try.prog.bytesOf 29 = 24 ∧ Try.prog.cellsOf 29 = 1 ∧ Try.prog.elemCells 29 = 1 ∧ Try.prog.isAggT 29 = false ∧ (Try.prog.info? 29).isSome = true ∧ Try.prog.rowOk 29 = true ∧ zeroElem Try.prog 29 = some (.sl none true 1 []) ∧ zeroAV Try.prog 29 = some [(.sl none true 1 [])] := ⟨by kernel_rfl, by kernel_rfl, by kernel_rfl, by kernel_rfl, by kernel_rfl, by kernel_rfl, by kernel_rfl, by kernel_rfl⟩
theorem ty30 : Try.prog.bytesOf 30 = 24 ∧ Try.prog.cellsOf 30 = 1 ∧ Try.prog.elemCells 30 = 1 ∧ Try.prog.isAggT 30 = false ∧ (Try.prog.info? 30).isSome = true ∧ Try.prog.rowOk 30 = true ∧ zeroElem Try.prog 30 = some (.sl none true 1 []) ∧ zeroAV Try.prog 30 = some [(.sl none true 1 [])] := ⟨by kernel_rfl, by kernel_rfl, by kernel_rfl, by kernel_rfl, by kernel_rfl, by kernel_rfl, by kernel_rfl, by kernel_rfl⟩
theorem ty31 : Try.prog.bytesOf 31 = 24 ∧ Try.prog.cellsOf 31 = 1 ∧ Try.prog.elemCells 31 = 1 ∧ Try.prog.isAggT 31 = false ∧ (Try.prog.info? 31).isSome = true ∧ Try.prog.rowOk 31 = true ∧ zeroElem Try.prog 31 = some (.sl none true 1 []) ∧ zeroAV Try.prog 31 = some [(.sl none true 1 [])] := ⟨by kernel_rfl, by kernel_rfl, by kernel_rfl, by kernel_rfl, by kernel_rfl, by kernel_rfl, by kernel_rfl, by kernel_rfl⟩
theorem ty35 : Try.prog.bytesOf 35 = 24 ∧ Try.prog.cellsOf 35 = 1 ∧ Try.prog.elemCells 35 = 2 ∧ Try.prog.isAggT 35 = false ∧ (Try.prog.info? 35).isSome = true ∧ Try.prog.rowOk 35 = true ∧ zeroElem Try.prog 35 = some (.sl none true 2 []) ∧ zeroAV Try.prog 35 = some [(.sl none true 2 [])] := ⟨by kernel_rfl, by kernel_rfl, by kernel_rfl, by kernel_rfl, by kernel_rfl, by kernel_rfl, by kernel_rfl, by kernel_rfl⟩
theorem ty36 : Try.prog.bytesOf 36 = 8 ∧ Try.prog.cellsOf 36 = 1 ∧ Try.prog.isAggT 36 = false ∧ (Try.prog.info? 36).isSome = true ∧ Try.prog.rowOk 36 = true ∧ zeroElem Try.prog 36 = some (.int .i64 0) ∧ zeroAV Try.prog 36 = some [(.int .i64 0)] := ⟨by kernel_rfl, by kernel_rfl, by kernel_rfl, by kernel_rfl, by kernel_rfl, by kernel_rfl, by kernel_rfl⟩
theorem ty37 : Try.prog.cellsOf 37 = 1 ∧ Try.prog.isAggT 37 = false ∧ (Try.prog.info? 37).isSome = true ∧ Try.prog.rowOk 37 = true := ⟨by kernel_rfl, by kernel_rfl, by kernel_rfl, by kernel_rfl⟩
theorem ty39 : Try.prog.cellsOf 39 = 1 ∧ Try.prog.isAggT 39 = false ∧ (Try.prog.info? 39).isSome = true ∧ Try.prog.rowOk 39 = true := ⟨by kernel_rfl, by kernel_rfl, by kernel_rfl, by kernel_rfl⟩
theorem ty44 : Try.prog.cellsOf 44 = 1 ∧ Try.prog.isAggT 44 = false ∧ (Try.prog.info? 44).isSome = true ∧ Try.prog.rowOk 44 = true := ⟨by kernel_rfl, by kernel_rfl, by kernel_rfl, by kernel_rfl⟩
theorem ty46 : Try.prog.cellsOf 46 = 1 ∧ Try.prog.isAggT 46 = false ∧ (Try.prog.info? 46).isSome = true ∧ Try.prog.rowOk 46 = true := ⟨by kernel_rfl, by kernel_rfl, by kernel_rfl, by kernel_rfl⟩
theorem ty49 : Try.prog.bytesOf 49 = 8 ∧ Try.prog.cellsOf 49 = 1 ∧ Try.prog.isAggT 49 = false ∧ (Try.prog.info? 49).isSome = true ∧ Try.prog.rowOk 49 = true ∧ zeroElem Try.prog 49 = some (.int .u64 0) ∧ zeroAV Try.prog 49 = some [(.int .u64 0)] := ⟨by kernel_rfl, by kernel_rfl, by kernel_rfl, by kernel_rfl, by kernel_rfl, by kernel_rfl, by kernel_rfl⟩
theorem ty50 : Try.prog.cellsOf 50 = 1 ∧ Try.prog.isAggT 50 = false ∧ (Try.prog.info? 50).isSome = true ∧ Try.prog.rowOk 50 = true := ⟨by kernel_rfl, by kernel_rfl, by kernel_rfl, by kernel_rfl⟩
theorem ty54 : Try.prog.cellsOf 54 = 1 ∧ Try.prog.isAggT 54 = false ∧ (Try.prog.info? 54).isSome = true ∧ Try.prog.rowOk 54 = true := ⟨by kernel_rfl, by kernel_rfl, by kernel_rfl, by kernel_rfl⟩
theorem ty56 : Try.prog.cellsOf 56 = 1 ∧ Try.prog.isAggT 56 = false ∧ (Try.prog.info? 56).isSome = true ∧ Try.prog.rowOk 56 = true := ⟨by kernel_rfl, by kernel_rfl, by kernel_rfl, by kernel_rfl⟩
theorem ty59 : Try.prog.bytesOf 59 = 2 ∧ Try.prog.cellsOf 59 = 1 ∧ Try.prog.isAggT 59 = false ∧ (Try.prog.info? 59).isSome = true ∧ Try.prog.rowOk 59 = true ∧ zeroElem Try.prog 59 = some (.int .u16 0) ∧ zeroAV Try.prog 59 = some [(.int .u16 0)] := ⟨by kernel_rfl, by kernel_rfl, by kernel_rfl, by kernel_rfl, by kernel_rfl, by kernel_rfl, by kernel_rfl⟩
theorem ty60 : Try.prog.bytesOf 60 = 8 ∧ Try.prog.cellsOf 60 = 1 ∧ Try.prog.isAggT 60 = false ∧ (Try.prog.info? 60).isSome = true ∧ Try.prog.rowOk 60 = true ∧ zeroElem Try.prog 60 = some .nilf ∧ zeroAV Try.prog 60 = some [.nilf] := ⟨by kernel_rfl, by kernel_rfl, by kernel_rfl, by kernel_rfl, by kernel_rfl, by kernel_rfl, by kernel_rfl⟩
theorem ty61 : Try.prog.bytesOf 61 = 96 ∧ Try.prog.cellsOf 61 = 12 ∧ Try.prog.isAggT 61 = true ∧ (Try.prog.info? 61).isSome = true ∧ Try.prog.rowOk 61 = true ∧ zeroElem Try.prog 61 = some (.agg [(.int .i64 0), (.int .i64 0), (.int .i64 0), (.int .i64 0), (.int .i64 0), (.int .i64 0), (.int .i64 0), (.int .i64 0), (.int .i64 0), (.int .i64 0), (.int .i64 0), (.int .i64 0)]) ∧ zeroAV Try.prog 61 = some [(.int .i64 0), (.int .i64 0), (.int .i64 0), (.int .i64 0), (.int .i64 0), (.int .i64 0), (.int .i64 0), (.int .i64 0), (.int .i64 0), (.int .i64 0), (.int .i64 0), (.int .i64 0)] := ⟨by kernel_rfl, by kernel_rfl, by kernel_rfl, by kernel_rfl, by kernel_rfl, by kernel_rfl, by kernel_rfl⟩
theorem ty62 : Try.prog.bytesOf 62 = 8 ∧ Try.prog.cellsOf 62 = 1 ∧ Try.prog.isAggT 62 = false ∧ (Try.prog.info? 62).isSome = true ∧ Try.prog.rowOk 62 = true ∧ zeroElem Try.prog 62 = some .nilf ∧ zeroAV Try.prog 62 = some [.nilf] := ⟨by kernel_rfl, by kernel_rfl, by kernel_rfl, by kernel_rfl, by kernel_rfl, by kernel_rfl, by kernel_rfl⟩
theorem ty64 : Try.prog.cellsOf 64 = 1 ∧ Try.prog.isAggT 64 = false ∧ (Try.prog.info? 64).isSome = true ∧ Try.prog.rowOk 64 = true := ⟨by kernel_rfl, by kernel_rfl, by kernel_rfl, by kernel_rfl⟩
theorem ty67 : Try.prog.cellsOf 67 = 1 ∧ Try.prog.isAggT 67 = false ∧ (Try.prog.info? 67).isSome = true ∧ Try.prog.rowOk 67 = true := ⟨by kernel_rfl, by kernel_rfl, by kernel_rfl, by kernel_rfl⟩
theorem ty69 : Try.prog.cellsOf 69 = 1 ∧ Try.prog.isAggT 69 = false ∧ (Try.prog.info? 69).isSome = true ∧ Try.prog.rowOk 69 = true := ⟨by kernel_rfl, by kernel_rfl, by kernel_rfl, by kernel_rfl⟩
theorem ty71 : Try.prog.cellsOf 71 = 1 ∧ Try.prog.isAggT 71 = false ∧ (Try.prog.info? 71).isSome = true ∧ Try.prog.rowOk 71 = true := ⟨by kernel_rfl, by kernel_rfl, by kernel_rfl, by kernel_rfl⟩
theorem ty73 : Try.prog.cellsOf 73 = 1 ∧ Try.prog.isAggT 73 = false ∧ (Try.prog.info? 73).isSome = true ∧ Try.prog.rowOk 73 = true := ⟨by kernel_rfl, by kernel_rfl, by kernel_rfl, by kernel_rfl⟩
theorem ty76 : Try.prog.cellsOf 76 = 1 ∧ Try.prog.isAggT 76 = false ∧ (Try.prog.info? 76).isSome = true ∧ Try.prog.rowOk 76 = true := ⟨by kernel_rfl, by kernel_rfl, by kernel_rfl, by kernel_rfl⟩
theorem ty79 : Try.prog.cellsOf 79 = 1 ∧ Try.prog.isAggT 79 = false ∧ (Try.prog.info? 79).isSome = true ∧ Try.prog.rowOk 79 = true := ⟨by kernel_rfl, by kernel_rfl, by kernel_rfl, by kernel_rfl⟩
theorem ty84 : Try.prog.cellsOf 84 = 1 ∧ Try.prog.isAggT 84 = false ∧ (Try.prog.info? 84).isSome = true ∧ Try.prog.rowOk 84 = true := ⟨by kernel_rfl, by kernel_rfl, by kernel_rfl, by kernel_rfl⟩
theorem ty86 : Try.prog.cellsOf 86 = 1 ∧ Try.prog.isAggT 86 = false ∧ (Try.prog.info? 86).isSome = true ∧ Try.prog.rowOk 86 = true := ⟨by kernel_rfl, by kernel_rfl, by kernel_rfl, by kernel_rfl⟩
theorem ty93 : Try.prog.bytesOf 93 = 8 ∧ Try.prog.cellsOf 93 = 1 ∧ Try.prog.isAggT 93 = false ∧ (Try.prog.info? 93).isSome = true ∧ Try.prog.rowOk 93 = true ∧ zeroElem Try.prog 93 = some (.int .u64 0) ∧ zeroAV Try.prog 93 = some [(.int .u64 0)] := ⟨by kernel_rfl, by kernel_rfl, by kernel_rfl, by kernel_rfl, by kernel_rfl, by kernel_rfl, by kernel_rfl⟩
theorem ty94 : Try.prog.cellsOf 94 = 1 ∧ Try.prog.isAggT 94 = false ∧ (Try.prog.info? 94).isSome = true ∧ Try.prog.rowOk 94 = true := ⟨by kernel_rfl, by kernel_rfl, by kernel_rfl, by kernel_rfl⟩
theorem ty98 : Try.prog.bytesOf 98 = 8 ∧ Try.prog.cellsOf 98 = 1 ∧ Try.prog.isAggT 98 = false ∧ (Try.prog.info? 98).isSome = true ∧ Try.prog.rowOk 98 = true ∧ zeroElem Try.prog 98 = some .nilf ∧ zeroAV Try.prog 98 = some [.nilf] := ⟨by kernel_rfl, by kernel_rfl, by kernel_rfl, by kernel_rfl, by kernel_rfl, by kernel_rfl, by kernel_rfl⟩
theorem ty99 : Try.prog.bytesOf 99 = 8 ∧ Try.prog.cellsOf 99 = 1 ∧ Try.prog.isAggT 99 = false ∧ (Try.prog.info? 99).isSome = true ∧ Try.prog.rowOk 99 = true ∧ zeroElem Try.prog 99 = some .nilf ∧ zeroAV Try.prog 99 = some [.nilf] := ⟨by kernel_rfl, by kernel_rfl, by kernel_rfl, by kernel_rfl, by kernel_rfl, by kernel_rfl, by kernel_rfl⟩
theorem ty103 : Try.prog.bytesOf 103 = 96 ∧ Try.prog.cellsOf 103 = 12 ∧ Try.prog.isAggT 103 = true ∧ (Try.prog.info? 103).isSome = true ∧ Try.prog.rowOk 103 = true ∧ zeroElem Try.prog 103 = some (.agg [(.int .u64 0), (.int .u64 0), (.int .u64 0), (.int .u64 0), (.int .u64 0), (.int .u64 0), (.int .u64 0), (.int .u64 0), (.int .u64 0), (.int .u64 0), (.int .u64 0), (.int .u64 0)]) ∧ zeroAV Try.prog 103 = some [(.int .u64 0), (.int .u64 0), (.int .u64 0), (.int .u64 0), (.int .u64 0), (.int .u64 0), (.int .u64 0), (.int .u64 0), (.int .u64 0), (.int .u64 0), (.int .u64 0), (.int .u64 0)] := ⟨by kernel_rfl, by kernel_rfl, by kernel_rfl, by kernel_rfl, by kernel_rfl, by kernel_rfl, by kernel_rfl⟩
theorem ty104 : Try.prog.bytesOf 104 = 8 ∧ Try.prog.cellsOf 104 = 1 ∧ Try.prog.isAggT 104 = false ∧ (Try.prog.info? 104).isSome = true ∧ Try.prog.rowOk 104 = true ∧ zeroElem Try.prog 104 = some .nilf ∧ zeroAV Try.prog 104 = some [.nilf] := ⟨by kernel_rfl, by kernel_rfl, by kernel_rfl, by kernel_rfl, by kernel_rfl, by kernel_rfl, by kernel_rfl⟩
theorem ok14 : callOk Try.prog 14 = true := by kernel_rfl
theorem ok15 : callOk Try.prog 15 = true := by kernel_rfl
theorem ok16 : callOk Try.prog 16 = true := by kernel_rfl
theorem ok17 : callOk Try.prog 17 = true := by kernel_rfl
theorem ok18 : callOk Try.prog 18 = true := by kernel_rfl
theorem ok19 : callOk Try.prog 19 = true := by kernel_rfl
theorem ok20 : callOk Try.prog 20 = true := by kernel_rfl
theorem ok21 : callOk Try.prog 21 = true := by kernel_rfl
theorem ok22 : callOk Try.prog 22 = true := by kernel_rfl
theorem ok23 : callOk Try.prog 23 = true := by kernel_rfl
theorem ok24 : callOk Try.prog 24 = true := by kernel_rfl
theorem ok25 : callOk Try.prog 25 = true := by kernel_rfl
theorem ok26 : callOk Try.prog 26 = true := by kernel_rfl
theorem ok27 : callOk Try.prog 27 = true := by kernel_rfl
theorem ok28 : callOk Try.prog 28 = true := by kernel_rfl
theorem ok29 : callOk Try.prog 29 = true := by kernel_rfl
theorem ok30 : callOk Try.prog 30 = true := by kernel_rfl
theorem ok33 : callOk Try.prog 33 = true := by kernel_rfl
theorem ok34 : callOk Try.prog 34 = true := by kernel_rfl
theorem ok35 : callOk Try.prog 35 = true := by kernel_rfl
theorem ok36 : callOk Try.prog 36 = true := by kernel_rfl
theorem ok37 : callOk Try.prog 37 = true := by kernel_rfl
theorem ok38 : callOk Try.prog 38 = true := by kernel_rfl
theorem ok39 : callOk Try.prog 39 = true := by kernel_rfl
theorem ok40 : callOk Try.prog 40 = true := by kernel_rfl
theorem ok41 : callOk Try.prog 41 = true := by kernel_rfl
theorem ok42 : callOk Try.prog 42 = true := by kernel_rfl
theorem ok43 : callOk Try.prog 43 = true := by kernel_rfl
theorem ok44 : callOk Try.prog 44 = true := by kernel_rfl
theorem ok45 : callOk Try.prog 45 = true := by kernel_rfl
theorem ok46 : callOk Try.prog 46 = true := by kernel_rfl
theorem ok47 : callOk Try.prog 47 = true := by kernel_rfl
theorem ok48 : callOk Try.prog 48 = true := by kernel_rfl
theorem ok49 : callOk Try.prog 49 = true := by kernel_rfl
theorem ok50 : callOk Try.prog 50 = true := by kernel_rfl
theorem ok51 : callOk Try.prog 51 = true := by kernel_rfl
theorem ok52 : callOk Try.prog 52 = true := by kernel_rfl
theorem ok53 : callOk Try.prog 53 = true := by kernel_rfl
theorem ok54 : callOk Try.prog 54 = true := by kernel_rfl
theorem ok56 : callOk Try.prog 56 = true := by kernel_rfl
theorem mixed : Try.prog.follows .mixedOrders = true := by kernel_rfl
attribute [go_sem] ty0 ty3 ty4 ty5 ty9 ty22 ty25 ty27 ty28 ty29 ty30 ty31 ty35 ty36 ty37 ty39 ty44 ty46 ty49 ty50 ty54 ty56 ty59 ty60 ty61 ty62 ty64 ty67 ty69 ty71 ty73 ty76 ty79 ty84 ty86 ty93 ty94 ty98 ty99 ty103 ty104 Try.underlying0 Try.underlying3 Try.underlying4 Try.underlying5 Try.underlying9 Try.underlying22 Try.underlying25 Try.underlying27 Try.underlying28 Try.underlying29 Try.underlying30 Try.underlying31 Try.underlying35 Try.underlying36 Try.underlying37 Try.underlying39 Try.underlying44 Try.underlying46 Try.underlying49 Try.underlying50 Try.underlying54 Try.underlying56 Try.underlying59 Try.underlying60 Try.underlying61 Try.underlying62 Try.underlying64 Try.underlying67 Try.underlying69 Try.underlying71 Try.underlying73 Try.underlying76 Try.underlying79 Try.underlying84 Try.underlying86 Try.underlying93 Try.underlying94 Try.underlying98 Try.underlying99 Try.underlying103 Try.underlying104 ok14 ok15 ok16 ok17 ok18 ok19 ok20 ok21 ok22 ok23 ok24 ok25 ok26 ok27 ok28 ok29 ok30 ok33 ok34 ok35 ok36 ok37 ok38 ok39 ok40 ok41 ok42 ok43 ok44 ok45 ok46 ok47 ok48 ok49 ok50 ok51 ok52 ok53 ok54 ok56
end Go.Proofs.Ytedjcbdhafmjiaa
