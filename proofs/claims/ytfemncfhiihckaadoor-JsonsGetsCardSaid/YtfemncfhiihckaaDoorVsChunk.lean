/- Part of a framework that states what Go functions answer on values as data; it holds for every program of the model. -/
import Derived.Test.YtfemncfhiihckaaDoorVsSimp
namespace Go.VS
set_option linter.unusedVariables false
set_option linter.unusedSimpArgs false
set_option linter.unusedSectionVars false
open Go

/-! ### Rows of bytes within cells -/
theorem thL_ap (F : Stamp → Fate) : ∀ (x y : List AV), thL F (x ++ y) = thL F x ++ thL F y
  | [], _ => rfl
  | a :: x, y => by simp only [List.cons_append, thL, thL_ap F x y]
theorem thL_u8 (F : Stamp → Fate) : ∀ (l : List UInt8), thL F (l.map u8) = l.map u8
  | [] => rfl
  | c :: l => by simp only [List.map_cons, thL, thL_u8 F l]; rfl
theorem dropL_ap (id : Nat) : ∀ (x y : List AV), dropL id (x ++ y) = dropL id x ++ dropL id y
  | [], _ => rfl
  | a :: x, y => by simp only [List.cons_append, dropL, dropL_ap id x y]
theorem dropL_u8 (id : Nat) : ∀ (l : List UInt8), dropL id (l.map u8) = l.map u8
  | [] => rfl
  | c :: l => by simp only [List.map_cons, dropL, dropL_u8 id l]; rfl
theorem setL_ap (g : Stamp) (sz k : Nat) (e : AV) : ∀ (x y : List AV), setL g sz k e (x ++ y) = setL g sz k e x ++ setL g sz k e y
  | [], _ => rfl
  | a :: x, y => by simp only [List.cons_append, setL, setL_ap g sz k e x y]
theorem setL_u8 (g : Stamp) (sz k : Nat) (e : AV) : ∀ (l : List UInt8), setL g sz k e (l.map u8) = l.map u8
  | [] => rfl
  | c :: l => by simp only [List.map_cons, setL, setL_u8 g sz k e l]; rfl
theorem rnL_ap (gs : List Stamp) : ∀ (x y : List AV), rnL gs (x ++ y) = rnL gs x ++ rnL gs y
  | [], _ => rfl
  | a :: x, y => by simp only [List.cons_append, rnL, rnL_ap gs x y]
theorem rnL_u8 (gs : List Stamp) : ∀ (l : List UInt8), rnL gs (l.map u8) = l.map u8
  | [] => rfl
  | c :: l => by simp only [List.map_cons, rnL, rnL_u8 gs l]; rfl
theorem rnBL_ap (k : Nat) (gs : List Stamp) (ids : List Nat) : ∀ (x y : List AV), rnBL k gs ids (x ++ y) = rnBL k gs ids x ++ rnBL k gs ids y
  | [], _ => rfl
  | a :: x, y => by simp only [List.cons_append, rnBL, rnBL_ap k gs ids x y]
theorem rnBL_u8 (k : Nat) (gs : List Stamp) (ids : List Nat) : ∀ (l : List UInt8), rnBL k gs ids (l.map u8) = l.map u8
  | [] => rfl
  | c :: l => by simp only [List.map_cons, rnBL, rnBL_u8 k gs ids l]; rfl
theorem okBL_ap (ids : List Nat) : ∀ (x y : List AV), okBL ids (x ++ y) = (okBL ids x && okBL ids y)
  | [], _ => by simp only [List.nil_append, okBL, Bool.true_and]
  | a :: x, y => by simp only [List.cons_append, okBL, okBL_ap ids x y, Bool.and_assoc]
theorem okBL_u8 (ids : List Nat) : ∀ (l : List UInt8), okBL ids (l.map u8) = true
  | [] => rfl
  | c :: l => by simp only [List.map_cons, okBL, okBL_u8 ids l, Bool.and_true]; rfl
theorem backL_ap (d : Nat) (bids : List Nat) : ∀ (x y : List AV), backL d bids (x ++ y) = backL d bids x ++ backL d bids y
  | [], _ => rfl
  | a :: x, y => by simp only [List.cons_append, backL, backL_ap d bids x y]
theorem backL_u8 (d : Nat) (bids : List Nat) : ∀ (l : List UInt8), backL d bids (l.map u8) = l.map u8
  | [] => rfl
  | c :: l => by simp only [List.map_cons, backL, backL_u8 d bids l]; rfl
theorem ansBL_ap (m : Nat) : ∀ (x y : List AV), ansBL m (x ++ y) = (ansBL m x && ansBL m y)
  | [], _ => by simp only [List.nil_append, ansBL, Bool.true_and]
  | a :: x, y => by simp only [List.cons_append, ansBL, ansBL_ap m x y, Bool.and_assoc]
theorem ansBL_u8 (m : Nat) : ∀ (l : List UInt8), ansBL m (l.map u8) = true
  | [] => rfl
  | c :: l => by simp only [List.map_cons, ansBL, ansBL_u8 m l, Bool.and_true]; rfl
theorem ren3L_ap (d : Nat) : ∀ (x y : List AV), ren3L d (x ++ y) = ren3L d x ++ ren3L d y
  | [], _ => rfl
  | a :: x, y => by simp only [List.cons_append, ren3L, ren3L_ap d x y]
theorem ren3L_u8 (d : Nat) : ∀ (l : List UInt8), ren3L d (l.map u8) = l.map u8
  | [] => rfl
  | c :: l => by simp only [List.map_cons, ren3L, ren3L_u8 d l]; rfl
theorem ansOkL_ap : ∀ (x y : List AV), ansOkL (x ++ y) = (ansOkL x && ansOkL y)
  | [], _ => by simp only [List.nil_append, ansOkL, Bool.true_and]
  | a :: x, y => by simp only [List.cons_append, ansOkL, ansOkL_ap  x y, Bool.and_assoc]
theorem ansOkL_u8 : ∀ (l : List UInt8), ansOkL (l.map u8) = true
  | [] => rfl
  | c :: l => by simp only [List.map_cons, ansOkL, ansOkL_u8  l, Bool.and_true]; rfl
theorem posL_ap : ∀ (x y : List AV), posL (x ++ y) = posL x ++ posL y
  | [], _ => rfl
  | a :: x, y => by simp only [List.cons_append, posL, posL_ap  x y, List.append_assoc]
theorem posL_u8 : ∀ (l : List UInt8), posL (l.map u8) = []
  | [] => rfl
  | c :: l => by simp only [List.map_cons, posL, posL_u8  l]; rfl
theorem scalarL_ap : ∀ (x y : List AV), scalarL (x ++ y) = (scalarL x && scalarL y)
  | [], _ => by simp only [List.nil_append, scalarL, Bool.true_and]
  | a :: x, y => by simp only [List.cons_append, scalarL, scalarL_ap  x y, Bool.and_assoc]
theorem scalarL_u8 : ∀ (l : List UInt8), scalarL (l.map u8) = true
  | [] => rfl
  | c :: l => by simp only [List.map_cons, scalarL, scalarL_u8  l, Bool.and_true]; rfl
theorem stAL_ap : ∀ (x y : List AV), stAL (x ++ y) = stAL x ++ stAL y
  | [], _ => rfl
  | a :: x, y => by simp only [List.cons_append, stAL, stAL_ap  x y, List.append_assoc]
theorem stAL_u8 : ∀ (l : List UInt8), stAL (l.map u8) = []
  | [] => rfl
  | c :: l => by simp only [List.map_cons, stAL, stAL_u8  l]; rfl
theorem closedL_ap : ∀ (x y : List AV), closedL (x ++ y) = (closedL x && closedL y)
  | [], _ => by simp only [List.nil_append, closedL, Bool.true_and]
  | a :: x, y => by simp only [List.cons_append, closedL, closedL_ap  x y, Bool.and_assoc]
theorem closedL_u8 : ∀ (l : List UInt8), closedL (l.map u8) = true
  | [] => rfl
  | c :: l => by simp only [List.map_cons, closedL, closedL_u8  l, Bool.and_true]; rfl
theorem ptrsL_ap : ∀ (x y : List AV), ptrsL (x ++ y) = ptrsL x ++ ptrsL y
  | [], _ => rfl
  | a :: x, y => by simp only [List.cons_append, ptrsL, ptrsL_ap  x y, List.append_assoc]
theorem ptrsL_u8 : ∀ (l : List UInt8), ptrsL (l.map u8) = []
  | [] => rfl
  | c :: l => by simp only [List.map_cons, ptrsL, ptrsL_u8  l]; rfl
theorem frozTL_ap : ∀ (x y : List AV), frozTL (x ++ y) = frozTL x ++ frozTL y
  | [], _ => rfl
  | a :: x, y => by simp only [List.cons_append, frozTL, frozTL_ap  x y]
theorem frozTL_u8 : ∀ (l : List UInt8), frozTL (l.map u8) = l.map u8
  | [] => rfl
  | c :: l => by simp only [List.map_cons, frozTL, frozTL_u8  l]; rfl
theorem noEL_ap : ∀ (x y : List AV), noEL (x ++ y) = (noEL x && noEL y)
  | [], _ => by simp only [List.nil_append, noEL, Bool.true_and]
  | a :: x, y => by simp only [List.cons_append, noEL, noEL_ap  x y, Bool.and_assoc]
theorem noEL_u8 : ∀ (l : List UInt8), noEL (l.map u8) = true
  | [] => rfl
  | c :: l => by simp only [List.map_cons, noEL, noEL_u8  l, Bool.and_true]; rfl
theorem stampsL_ap : ∀ (x y : List AV), stampsL (x ++ y) = stampsL x ++ stampsL y
  | [], _ => rfl
  | a :: x, y => by simp only [List.cons_append, stampsL, stampsL_ap  x y, List.append_assoc]
theorem stampsL_u8 : ∀ (l : List UInt8), stampsL (l.map u8) = []
  | [] => rfl
  | c :: l => by simp only [List.map_cons, stampsL, stampsL_u8  l]; rfl
theorem frozL_ap : ∀ (x y : List AV), frozL (x ++ y) = frozL x ++ frozL y
  | [], _ => rfl
  | a :: x, y => by simp only [List.cons_append, frozL, frozL_ap  x y]
theorem frozL_u8 : ∀ (l : List UInt8), frozL (l.map u8) = l.map u8
  | [] => rfl
  | c :: l => by simp only [List.map_cons, frozL, frozL_u8  l]; rfl
theorem frozableL_ap : ∀ (x y : List AV), frozableL (x ++ y) = (frozableL x && frozableL y)
  | [], _ => by simp only [List.nil_append, frozableL, Bool.true_and]
  | a :: x, y => by simp only [List.cons_append, frozableL, frozableL_ap  x y, Bool.and_assoc]
theorem frozableL_u8 : ∀ (l : List UInt8), frozableL (l.map u8) = true
  | [] => rfl
  | c :: l => by simp only [List.map_cons, frozableL, frozableL_u8  l, Bool.and_true]; rfl
attribute [go_sem] thL_ap thL_u8 dropL_ap dropL_u8 setL_ap setL_u8 rnL_ap rnL_u8 rnBL_ap rnBL_u8 okBL_ap okBL_u8 backL_ap backL_u8 ansBL_ap ansBL_u8 ren3L_ap ren3L_u8 ansOkL_ap ansOkL_u8 posL_ap posL_u8 scalarL_ap scalarL_u8 stAL_ap stAL_u8 closedL_ap closedL_u8 ptrsL_ap ptrsL_u8 frozTL_ap frozTL_u8 noEL_ap noEL_u8 stampsL_ap stampsL_u8 frozL_ap frozL_u8 frozableL_ap frozableL_u8 List.length_append
/-- A row of known length, and what stands behind it. -/
theorem ap_take {α : Type _} {n : Nat} {hs : List α} (h : hs.length = n) (l : List α) (k : Nat) : (hs ++ l).take (k + n) = hs ++ l.take k := by
  subst h
  rw [Nat.add_comm, List.take_length_add_append]
theorem ap_drop {α : Type _} {n : Nat} {hs : List α} (h : hs.length = n) (l : List α) (k : Nat) : (hs ++ l).drop (k + n) = l.drop k := by
  subst h
  rw [Nat.add_comm, ← List.drop_drop, List.drop_left]
theorem ap_get {α : Type _} {n : Nat} {hs : List α} (h : hs.length = n) (l : List α) (k : Nat) : (hs ++ l)[k + n]? = l[k]? := by
  subst h
  rw [List.getElem?_append_right (by omega), Nat.add_sub_cancel]
theorem ap_getD {α : Type _} {n : Nat} {hs : List α} (h : hs.length = n) (l : List α) (k : Nat) (d : α) : (hs ++ l).getD (k + n) d = l.getD k d := by
  rw [List.getD_eq_getElem?_getD, List.getD_eq_getElem?_getD, ap_get h]
theorem ap_all {α : Type _} {n : Nat} {hs : List α} (h : hs.length = n) : hs.take n = hs := by rw [← h, List.take_length]
theorem ints_u8 : ∀ (l : List UInt8), intsOf (l.map u8) = some (l.map fun c => (c.toNat : Int))
  | [] => rfl
  | c :: l => by simp [intsOf, u8, ints_u8 l]
theorem entry4 (a b c d : AV) : entry [a, b, c, d] = ⟨lk [(0, a), (1, b), (2, c), (3, d)], lkB [], hasS [], hasS [], hasN [], lkR []⟩ := by
  unfold entry
  congr 1
  funext t
  match t with
  | 0 => rfl
  | 1 => rfl
  | 2 => rfl
  | 3 => rfl
  | n + 4 => rfl
theorem entry5 (a b c d e : AV) : entry [a, b, c, d, e] = ⟨lk [(0, a), (1, b), (2, c), (3, d), (4, e)], lkB [], hasS [], hasS [], hasN [], lkR []⟩ := by
  unfold entry
  congr 1
  funext t
  match t with
  | 0 => rfl
  | 1 => rfl
  | 2 => rfl
  | 3 => rfl
  | 4 => rfl
  | n + 5 => rfl
theorem entry6 (a b c d e f : AV) : entry [a, b, c, d, e, f] = ⟨lk [(0, a), (1, b), (2, c), (3, d), (4, e), (5, f)], lkB [], hasS [], hasS [], hasN [], lkR []⟩ := by
  unfold entry
  congr 1
  funext t
  match t with
  | 0 => rfl
  | 1 => rfl
  | 2 => rfl
  | 3 => rfl
  | 4 => rfl
  | 5 => rfl
  | n + 6 => rfl
theorem callE_PE {P : Program} {st : St} {d : Option Nat} {f : FuncId} {as bs : List AV} {r : AV} {K : St → Prop} (h : CallsP P f bs r) (hk : eqOk (as.map froz = bs) (callOk P f = true ∧ argsOk st as = true ∧ optP (callSt st d as r) K)) : callE P st d f as K :=
  callE_P (by rw [hk.1]; exact h) hk.2
theorem callP_PE {P : Program} {st : St} {d : Option Nat} {f : FuncId} {as bs : List AV} {r : AV} {K : St → Prop} (h : CallsP P f bs r) (hk : eqOk (as.map froz = bs) (optP (callSt st d as r) K)) : callP P st d f as K :=
  callP_intro2 (by rw [hk.1]; exact h) hk.2
end Go.VS
