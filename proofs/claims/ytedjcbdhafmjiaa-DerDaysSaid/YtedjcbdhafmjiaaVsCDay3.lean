/- What is written of a time is read. -/
import Derived.Test.YtedjcbdhafmjiaaVsCDay2
open Go Go.VS
namespace Go.Proofs.Ytedjcbdhafmjiaa
set_option linter.unusedVariables false
set_option linter.unusedSimpArgs false
set_option maxRecDepth 20000
theorem two_of {bs : List UInt8} {j : Nat} {n : Int} (hn : 0 ≤ n ∧ n ≤ 99) (h1 : bs.getD (2 * j) default = UInt8.ofNat (48 + n / 10 % 10).toNat) (h2 : bs.getD (2 * j + 1) default = UInt8.ofNat (48 + n % 10).toNat) :
    two bs j = n ∧ (0 ≤ dig bs (2 * j) ∧ dig bs (2 * j) ≤ 9) ∧ (0 ≤ dig bs (2 * j + 1) ∧ dig bs (2 * j + 1) ≤ 9) := by
  unfold two dig
  rw [h1, h2, UInt8.toNat_ofNat', UInt8.toNat_ofNat', Nat.mod_eq_of_lt (by omega), Nat.mod_eq_of_lt (by omega)]
  omega
theorem secs_of {long : Bool} {Y : Int} {m : Nat} {d s : Int} (hl : (long = true → 2050 ≤ Y) ∧ (long = false → 1970 ≤ Y)) (hm : 1 ≤ m ∧ m ≤ 12) (hd : 0 ≤ d ∧ d < (mdL Y).getD (m - 1) default) (hs : 0 ≤ s ∧ s < 86400) :
    secs long Y m (d + 1) (s / 3600) (s / 60 % 60) (s % 60) = some ((yearD Y + pre (mdL Y) (m - 1) + d) * 86400 + s) := by
  unfold secs
  rw [Int.toNat_natCast, if_neg ?_]
  · unfold yearD
    congr 1
    generalize (Y - 1) / 4 - (Y - 1) / 100 + (Y - 1) / 400 = z
    generalize pre (mdL Y) (m - 1) = q
    omega
  · rintro (⟨h, h1⟩ | ⟨h, h1⟩ | h | h | h | h | h | h | h)
    · have := hl.1 h; omega
    · have := hl.2 h; omega
    all_goals omega
theorem digOk_of {bs : List UInt8} {n : Nat} (h : ∀ j, j < n → (0 ≤ dig bs (2 * j) ∧ dig bs (2 * j) ≤ 9) ∧ (0 ≤ dig bs (2 * j + 1) ∧ dig bs (2 * j + 1) ≤ 9)) : digOk bs (2 * n) := fun s hs => by
  obtain ⟨a, b⟩ := h (s / 2) (by omega)
  by_cases e : s % 2 = 0
  · rw [show 2 * (s / 2) = s by omega] at a; exact a
  · rw [show 2 * (s / 2) + 1 = s by omega] at b; exact b
theorem read_time {Y : Int} {m : Nat} {d s : Int} (hY : 1970 ≤ Y ∧ Y < 2200) (hm : 1 ≤ m ∧ m ≤ 12) (hd : 0 ≤ d ∧ d < (mdL Y).getD (m - 1) default) (hs : 0 ≤ s ∧ s < 86400) :
    timeR (UInt8.ofNat (wrTag Y).toNat) (wrFull Y m d s) = some ((yearD Y + pre (mdL Y) (m - 1) + d) * 86400 + s) := by
  have hb := mdL_bd Y (m - 1)
  by_cases h : Y < 2050
  · have e1 : UInt8.ofNat (wrTag Y).toNat = 23 := by unfold wrTag; rw [if_pos h]; rfl
    have e2 : wrFull Y m d s = wrTime Y m d s := if_pos h
    rw [e1, e2]
    obtain ⟨t0, a0, b0⟩ := two_of (bs := wrTime Y m d s) (j := 0) (n := Y % 100) (by omega) rfl rfl
    obtain ⟨t1, a1, b1⟩ := two_of (bs := wrTime Y m d s) (j := 1) (n := m) (by omega) rfl rfl
    obtain ⟨t2, a2, b2⟩ := two_of (bs := wrTime Y m d s) (j := 2) (n := d + 1) (by omega) rfl rfl
    obtain ⟨t3, a3, b3⟩ := two_of (bs := wrTime Y m d s) (j := 3) (n := s / 3600) (by omega) rfl rfl
    obtain ⟨t4, a4, b4⟩ := two_of (bs := wrTime Y m d s) (j := 4) (n := s / 60 % 60) (by omega) rfl rfl
    obtain ⟨t5, a5, b5⟩ := two_of (bs := wrTime Y m d s) (j := 5) (n := s % 60) (by omega) rfl rfl
    unfold timeR
    rw [if_pos (show UInt8.toNat 23 = 23 from rfl), if_pos ⟨rfl, rfl, digOk_of (n := 6) fun j hj => by
      match j, hj with
      | 0, _ => exact ⟨a0, b0⟩
      | 1, _ => exact ⟨a1, b1⟩
      | 2, _ => exact ⟨a2, b2⟩
      | 3, _ => exact ⟨a3, b3⟩
      | 4, _ => exact ⟨a4, b4⟩
      | 5, _ => exact ⟨a5, b5⟩⟩, t0, t1, t2, t3, t4, t5]
    have : (if Y % 100 < 50 then 2000 + Y % 100 else 1900 + Y % 100) = Y := by split <;> omega
    rw [this]
    exact secs_of ⟨fun h => (by cases h), fun _ => hY.1⟩ hm hd hs
  · have e1 : UInt8.ofNat (wrTag Y).toNat = 24 := by unfold wrTag; rw [if_neg h]; rfl
    have e2 : wrFull Y m d s = twoD (Y / 100) ++ wrTime Y m d s := if_neg h
    rw [e1, e2]
    obtain ⟨t, a, b⟩ := two_of (bs := twoD (Y / 100) ++ wrTime Y m d s) (j := 0) (n := Y / 100) (by omega) rfl rfl
    obtain ⟨t0, a0, b0⟩ := two_of (bs := twoD (Y / 100) ++ wrTime Y m d s) (j := 1) (n := Y % 100) (by omega) rfl rfl
    obtain ⟨t1, a1, b1⟩ := two_of (bs := twoD (Y / 100) ++ wrTime Y m d s) (j := 2) (n := m) (by omega) rfl rfl
    obtain ⟨t2, a2, b2⟩ := two_of (bs := twoD (Y / 100) ++ wrTime Y m d s) (j := 3) (n := d + 1) (by omega) rfl rfl
    obtain ⟨t3, a3, b3⟩ := two_of (bs := twoD (Y / 100) ++ wrTime Y m d s) (j := 4) (n := s / 3600) (by omega) rfl rfl
    obtain ⟨t4, a4, b4⟩ := two_of (bs := twoD (Y / 100) ++ wrTime Y m d s) (j := 5) (n := s / 60 % 60) (by omega) rfl rfl
    obtain ⟨t5, a5, b5⟩ := two_of (bs := twoD (Y / 100) ++ wrTime Y m d s) (j := 6) (n := s % 60) (by omega) rfl rfl
    unfold timeR
    rw [if_neg (show ¬ UInt8.toNat 24 = 23 by decide), if_pos (show UInt8.toNat 24 = 24 from rfl), if_pos ⟨rfl, rfl, digOk_of (n := 7) fun j hj => by
      match j, hj with
      | 0, _ => exact ⟨a, b⟩
      | 1, _ => exact ⟨a0, b0⟩
      | 2, _ => exact ⟨a1, b1⟩
      | 3, _ => exact ⟨a2, b2⟩
      | 4, _ => exact ⟨a3, b3⟩
      | 5, _ => exact ⟨a4, b4⟩
      | 6, _ => exact ⟨a5, b5⟩⟩, t, t0, t1, t2, t3, t4, t5]
    have : 100 * (Y / 100) + Y % 100 = Y := by omega
    rw [this]
    exact secs_of ⟨fun _ => (by omega), fun h => (by cases h)⟩ hm hd hs
end Go.Proofs.Ytedjcbdhafmjiaa
