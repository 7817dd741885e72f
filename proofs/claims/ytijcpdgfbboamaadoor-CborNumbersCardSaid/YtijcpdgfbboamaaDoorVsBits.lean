/- Part of a framework that states what Go functions answer on values as data; it holds for every program of the model. -/
import Derived.Test.YtijcpdgfbboamaaDoorVsLoop
namespace Go.VS
set_option linter.unusedVariables false
set_option linter.unusedSimpArgs false
set_option linter.unusedSectionVars false
open Go

theorem getD_drop' {α : Type} (l : List α) (i j : Nat) (d : α) : (l.drop i).getD j d = l.getD (i + j) d := by
  simp [List.getD_eq_getElem?_getD, List.getElem?_drop]
theorem getD_take' {α : Type} (l : List α) (k j : Nat) (d : α) (h : j < k) : (l.take k).getD j d = l.getD j d := by
  simp [List.getD_eq_getElem?_getD, h]

theorem ofInt_nat (w n : Nat) : BitVec.ofInt w (n : Int) = BitVec.ofNat w n := by
  apply BitVec.eq_of_toNat_eq
  simp [BitVec.toNat_ofNat]

theorem bitop_or_0 (c : UInt8) : bitop .or .i64 0 (c.toNat : Int) = c.toNat := by
  have hc := c.toNat_lt
  unfold bitop
  simp only
  have e : BitVec.ofInt IntKind.i64.bits 0 = BitVec.ofNat IntKind.i64.bits 0 := ofInt_nat _ 0
  rw [e, ofInt_nat]
  simp only [BitVec.toNat_or, BitVec.toNat_ofNat]
  have hb : IntKind.i64.bits = 64 := rfl
  rw [hb, Nat.zero_mod, Nat.zero_or, Nat.mod_eq_of_lt (by omega)]
  exact Go.IntWalk.i64_in _ (by omega)

theorem or_shift (a c i : Nat) (h : c < 2 ^ i) : (a * 2 ^ i) ||| c = a * 2 ^ i + c := by
  have := Nat.shiftLeft_add_eq_or_of_lt h a
  rw [Nat.shiftLeft_eq] at this
  exact this.symm

theorem bitop_or_256 (x : Int) (c : UInt8) (h : 0 ≤ x ∧ x ≤ 1000000000000) : bitop .or .i64 (x * 256) (c.toNat : Int) = x * 256 + c.toNat := by
  have hc := c.toNat_lt
  obtain ⟨a, rfl⟩ := Int.eq_ofNat_of_zero_le h.1
  unfold bitop
  simp only
  have e : ((a : Int) * 256) = ((a * 256 : Nat) : Int) := by simp
  rw [e, ofInt_nat, ofInt_nat]
  simp only [BitVec.toNat_or, BitVec.toNat_ofNat]
  have hb : IntKind.i64.bits = 64 := rfl
  rw [hb, Nat.mod_eq_of_lt (by omega), Nat.mod_eq_of_lt (by omega)]
  have := or_shift a c.toNat 8 (by omega)
  rw [show (2 : Nat) ^ 8 = 256 from rfl] at this
  rw [this]
  have e2 : ((a * 256 + c.toNat : Nat) : Int) = (a : Int) * 256 + c.toNat := by simp
  rw [e2]
  exact Go.IntWalk.i64_in _ (by omega)

theorem and_low (a i : Nat) : a &&& (2 ^ i - 1) = a % 2 ^ i := Nat.and_two_pow_sub_one_eq_mod a i

theorem bitop_and_u8 (c : UInt8) (i : Nat) (hi : i ≤ 8) : bitop .and .u8 (c.toNat : Int) ((2 ^ i - 1 : Nat) : Int) = ((c.toNat % 2 ^ i : Nat) : Int) := by
  have hc := c.toNat_lt
  unfold bitop
  simp only
  rw [ofInt_nat, ofInt_nat]
  simp only [BitVec.toNat_and, BitVec.toNat_ofNat]
  have hb : IntKind.u8.bits = 8 := rfl
  have h2 : 2 ^ i ≤ 2 ^ 8 := Nat.pow_le_pow_right (by decide) hi
  have h3 : 0 < 2 ^ i := Nat.two_pow_pos i
  rw [hb, Nat.mod_eq_of_lt (by omega), Nat.mod_eq_of_lt (by omega), and_low]
  have h4 : c.toNat % 2 ^ i < 2 ^ i := Nat.mod_lt _ h3
  exact Go.IntWalk.u8_in _ (by omega)
theorem bitop_and31 (c : UInt8) : bitop .and .u8 (c.toNat : Int) 31 = ((c.toNat % 32 : Nat) : Int) := bitop_and_u8 c 5 (by decide)
end Go.VS
