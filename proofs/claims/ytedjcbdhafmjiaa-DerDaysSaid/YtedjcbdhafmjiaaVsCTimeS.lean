/- A time's digits, and the seconds that they stand for. -/
import Derived.Test.YtedjcbdhafmjiaaVsCDays
open Go Go.VS
namespace Go.Proofs.Ytedjcbdhafmjiaa
set_option linter.unusedVariables false
set_option linter.unusedSimpArgs false
set_option maxRecDepth 20000
set_option maxHeartbeats 4000000
/-- A digit. -/
def dig (bs : List UInt8) (s : Nat) : Int := ((bs.getD s default).toNat : Int) - 48
def digOk (bs : List UInt8) (n : Nat) : Prop := ∀ s, s < n → 0 ≤ dig bs s ∧ dig bs s ≤ 9
def two (bs : List UInt8) (j : Nat) : Int := 10 * dig bs (2 * j) + dig bs (2 * j + 1)
/-- What has been read of the digits. -/
def tw (bs : List UInt8) (i j : Nat) : Int := if 2 * j + 1 < i then two bs j else dig bs (2 * j)
theorem tw_end {bs : List UInt8} {i j : Nat} (h : 2 * j + 1 < i) : tw bs i j = two bs j := if_pos h
/-- The seconds of a year, month, day and so on, if there are such. -/
def secs (long : Bool) (Y mo d h mi s : Int) : Option Int :=
  if (long = true ∧ Y < 2050) ∨ (long = false ∧ Y < 1970) ∨ mo < 1 ∨ 12 < mo ∨ d < 1 ∨ (mdL Y).getD (mo.toNat - 1) default < d ∨ 23 < h ∨ 59 < mi ∨ 59 < s then none
  else some ((((365 * (Y - 1970) + ((Y - 1) / 4 - (Y - 1) / 100 + (Y - 1) / 400) - 477 + pre (mdL Y) (mo.toNat - 1) + d - 1) * 24 + h) * 60 + mi) * 60 + s)
instance (bs : List UInt8) (n : Nat) : Decidable (digOk bs n) := by unfold digOk; infer_instance
def timeR (tag : UInt8) (bs : List UInt8) : Option Int :=
  if tag.toNat = 23 then
    if bs.length = 13 ∧ (bs.getD 12 default).toNat = 90 ∧ digOk bs 12 then secs false (if two bs 0 < 50 then 2000 + two bs 0 else 1900 + two bs 0) (two bs 1) (two bs 2) (two bs 3) (two bs 4) (two bs 5) else none
  else if tag.toNat = 24 then
    if bs.length = 15 ∧ (bs.getD 14 default).toNat = 90 ∧ digOk bs 14 then secs true (100 * two bs 0 + two bs 1) (two bs 2) (two bs 3) (two bs 4) (two bs 5) (two bs 6) else none
  else none
def timeA (r : Option Int) : AV :=
  match r with
  | some n => .tup [.int .u64 n, .int .i64 0]
  | none => .tup [.int .u64 0, .int .i64 31]
theorem tw_step {bs : List UInt8} {i : Nat} (h : i % 2 = 0) : (List.range ((i + 1) / 2)).map (tw bs i) ++ [dig bs i] = (List.range ((i + 1 + 1) / 2)).map (tw bs (i + 1)) := by
  have e1 : (i + 1) / 2 = i / 2 := by omega
  have e2 : (i + 1 + 1) / 2 = i / 2 + 1 := by omega
  rw [e1, e2, List.range_succ, List.map_append]
  congr 1
  · apply List.map_congr_left
    intro j hj
    have := List.mem_range.1 hj
    unfold tw
    rw [if_pos (by omega), if_pos (by omega)]
  · simp only [List.map_cons, List.map_nil]
    unfold tw
    rw [if_neg (by omega), show 2 * (i / 2) = i by omega]
theorem tw_set {bs : List UInt8} {i : Nat} (h : i % 2 = 1) : ((List.range ((i + 1) / 2)).map (tw bs i)).set (i / 2) (two bs (i / 2)) = (List.range ((i + 1 + 1) / 2)).map (tw bs (i + 1)) := by
  have e1 : (i + 1) / 2 = i / 2 + 1 := by omega
  have e2 : (i + 1 + 1) / 2 = i / 2 + 1 := by omega
  rw [e1, e2]
  apply List.ext_getElem
  · simp
  · intro j h1 h2
    simp only [List.length_map, List.length_range] at h2
    rw [List.getElem_set]
    simp only [List.getElem_map, List.getElem_range]
    unfold tw
    by_cases e : i / 2 = j
    · rw [if_pos e, if_pos (by omega), e]
    · rw [if_neg e, if_pos (by omega), if_pos (by omega)]
theorem getD_rng {m k : Nat} (g : Nat → Int) (h : k < m) : ((List.range m).map g).getD k default = g k := by
  simp [List.getD_eq_getElem?_getD, h]
theorem secs_none (long : Bool) (Y : Int) (m : Nat) (d h mi s : Int)
    (hc : (long = true ∧ Y < 2050) ∨ (long = false ∧ Y < 1970) ∨ (m : Int) < 1 ∨ 12 < (m : Int) ∨ d < 1 ∨ (mdL Y).getD (m - 1) default < d ∨ 23 < h ∨ 59 < mi ∨ 59 < s) : AV.tup [.int .u64 0, .int .i64 31] = timeA (secs long Y m d h mi s) := by
  unfold secs
  rw [Int.toNat_natCast, if_pos hc]
  rfl
theorem secs_some (long : Bool) (Y : Int) (m : Nat) (d h mi s : Int) (hY : Y ≤ 10000) (hb : 0 ≤ h ∧ 0 ≤ mi ∧ 0 ≤ s ∧ d ≤ 99)
    (hc : ¬ ((long = true ∧ Y < 2050) ∨ (long = false ∧ Y < 1970) ∨ (m : Int) < 1 ∨ 12 < (m : Int) ∨ d < 1 ∨ (mdL Y).getD (m - 1) default < d ∨ 23 < h ∨ 59 < mi ∨ 59 < s)) :
    AV.tup [.int .u64 (IntKind.u64.wrap (IntKind.u64.wrap (IntKind.u64.wrap (IntKind.u64.wrap (IntKind.u64.wrap (IntKind.u64.wrap (IntKind.u64.wrap (IntKind.u64.wrap (IntKind.u64.wrap
      (365 * (Y - 1970) + ((Y - 1) / 4 - (Y - 1) / 100 + (Y - 1) / 400) - 477 + pre (mdL Y) (m - 1)) + d) - 1) * 24) + h) * 60) + mi) * 60) + s)), .int .i64 0] = timeA (secs long Y m d h mi s) := by
  unfold secs
  rw [Int.toNat_natCast, if_neg hc]
  have hp := pre_bd (mdL_bd Y) (m - 1)
  have hY2 : 1970 ≤ Y := by
    cases long
    · have : ¬ Y < 1970 := fun h => hc (.inr (.inl ⟨rfl, h⟩))
      omega
    · have : ¬ Y < 2050 := fun h => hc (.inl ⟨rfl, h⟩)
      omega
  have hr := not_or.1 (not_or.1 hc).2
  have hr2 := hr.2
  generalize pre (mdL Y) (m - 1) = p at *
  generalize (mdL Y).getD (m - 1) default = q at *
  have hq : 0 ≤ (Y - 1) / 4 - (Y - 1) / 100 + (Y - 1) / 400 - 477 ∧ (Y - 1) / 4 - (Y - 1) / 100 + (Y - 1) / 400 - 477 ≤ 5000 := by omega
  generalize (Y - 1) / 4 - (Y - 1) / 100 + (Y - 1) / 400 = z at *
  simp (disch := omega) only [Go.IntWalk.u64_in]
  rfl
theorem time_bad {bs : List UInt8} {i n : Nat} (hi : i < n) (h : ((bs.getD i default).toNat : Int) < 48 ∨ 57 < ((bs.getD i default).toNat : Int)) : ¬ digOk bs n := fun hd => by
  have := hd i hi
  unfold dig at this
  omega
theorem dig_succ {bs : List UInt8} {i : Nat} (hd : digOk bs i) (h1 : 48 ≤ ((bs.getD i default).toNat : Int)) (h2 : ((bs.getD i default).toNat : Int) ≤ 57) : digOk bs (i + 1) := fun s hs => by
  by_cases e : s = i
  · subst e; unfold dig; omega
  · exact hd s (by omega)
end Go.Proofs.Ytedjcbdhafmjiaa
