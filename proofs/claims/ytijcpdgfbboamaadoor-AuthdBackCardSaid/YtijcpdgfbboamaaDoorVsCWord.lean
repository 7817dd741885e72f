/- What utf8.word reads: eight bytes as a number. -/
import Derived.Test.YtijcpdgfbboamaaDoorVsCHead
import Derived.Test.YtijcpdgfbboamaaDoorVsSimp
import Derived.Lib.ValidAsc
import Derived.Laws.BitsAllLaws
open Go Go.VS
namespace Go.Proofs.YtijcpdgfbboamaaDoor
set_option linter.unusedVariables false
set_option linter.unusedSimpArgs false
set_option maxRecDepth 20000
set_option maxHeartbeats 4000000
theorem bitop_or_add (x c k : Nat) (hx : x < 2 ^ k) (h : x + c * 2 ^ k < 18446744073709551616) : bitop .or .u64 (x : Int) ((c : Int) * ((2 ^ k : Nat) : Int)) = ((x + c * 2 ^ k : Nat) : Int) := by
  unfold bitop
  simp only
  have e : ((c : Int) * ((2 ^ k : Nat) : Int)) = ((c * 2 ^ k : Nat) : Int) := by simp
  rw [e, ofInt_nat, ofInt_nat]
  simp only [BitVec.toNat_or, BitVec.toNat_ofNat]
  have hb : IntKind.u64.bits = 64 := rfl
  rw [hb, Nat.mod_eq_of_lt (by omega), Nat.mod_eq_of_lt (by omega), Nat.or_comm]
  have := or_shift c x k hx
  rw [this, Nat.add_comm]
  exact Go.IntWalk.u64_in _ (by omega)
theorem mb8 : min 8 IntKind.u64.bits = 8 := rfl
theorem mb16 : min 16 IntKind.u64.bits = 16 := rfl
theorem mb24 : min 24 IntKind.u64.bits = 24 := rfl
theorem mb32 : min 32 IntKind.u64.bits = 32 := rfl
theorem mb40 : min 40 IntKind.u64.bits = 40 := rfl
theorem mb48 : min 48 IntKind.u64.bits = 48 := rfl
theorem mb56 : min 56 IntKind.u64.bits = 56 := rfl
theorem le8 (l : List UInt8) (h : 8 ≤ l.length) : Go.Lib.leNat (l.take 8) = (l.getD 0 default).toNat + (l.getD 1 default).toNat * 256 + (l.getD 2 default).toNat * 65536 + (l.getD 3 default).toNat * 16777216 + (l.getD 4 default).toNat * 4294967296 + (l.getD 5 default).toNat * 1099511627776 + (l.getD 6 default).toNat * 281474976710656 + (l.getD 7 default).toNat * 72057594037927936 := by
  match l, h with
  | a0 :: a1 :: a2 :: a3 :: a4 :: a5 :: a6 :: a7 :: r, _ =>
    simp only [List.take_succ_cons, List.take_zero, Go.Lib.leNat, List.getD_cons_zero, List.getD_cons_succ]
    omega
def k56_VsCWord : List Nat := [0,2]
def a56_1_VsCWord : List Nat := [0,1,3,7,0,16,48,112,240,511,0,1024,3072,7168,15360,32767,0,65536,196608,458752,983040,2097151,4194303]
def o56_1_VsCWord : List Nat := [0,1,2,3,4,5,6,7,8,9,10,11,12,13,14,15,16,17,18,19,20,21,22]
def a56_2_VsCWord : List Nat := [0,1,3,7,0,16,48,112,240,511,0,1024,3072,7168,15360,32767,0,65536,196608,458752,983040,2097151,0,4194304,12582912,29360128,62914560,134217727,0,268435456,805306368,1879048192,4026531840,8589934591,0,17179869184,51539607552,120259084288,257698037760,549755813887,0,1099511627776,3298534883328,7696581394432,16492674416640,35184372088831,70368744177663]
def o56_2_VsCWord : List Nat := [0,1,2,3,4,5,6,7,8,9,10,11,12,13,14,15,16,17,18,19,20,21,22,23,24,25,26,27,28,29,30,31,32,33,34,35,36,37,38,39,40,41,42,43,44,45,46]
attribute [go_sem] k56_VsCWord a56_1_VsCWord o56_1_VsCWord a56_2_VsCWord o56_2_VsCWord
theorem f56_ok (l : List UInt8) (h : 8 ≤ l.length) : CallsP Tryd.prog 56 [.sl none false 1 (l.map u8)] (.int .u64 ((Go.Lib.leNat (l.take 8) : Nat) : Int)) := by
  rw [le8 l h]
  have l0 := (l.getD 0 default).toNat_lt
  have l1 := (l.getD 1 default).toNat_lt
  have l2 := (l.getD 2 default).toNat_lt
  have l3 := (l.getD 3 default).toNat_lt
  have l4 := (l.getD 4 default).toNat_lt
  have l5 := (l.getD 5 default).toNat_lt
  have l6 := (l.getD 6 default).toNat_lt
  have l7 := (l.getD 7 default).toNat_lt
  have h1 := bitop_or_add (l.getD 0 default).toNat (l.getD 1 default).toNat 8 (by omega) (by omega)
  have h2 := bitop_or_add ((l.getD 0 default).toNat + (l.getD 1 default).toNat * 2 ^ 8) (l.getD 2 default).toNat 16 (by omega) (by omega)
  have h3 := bitop_or_add ((l.getD 0 default).toNat + (l.getD 1 default).toNat * 2 ^ 8 + (l.getD 2 default).toNat * 2 ^ 16) (l.getD 3 default).toNat 24 (by omega) (by omega)
  have h4 := bitop_or_add ((l.getD 0 default).toNat + (l.getD 1 default).toNat * 2 ^ 8 + (l.getD 2 default).toNat * 2 ^ 16 + (l.getD 3 default).toNat * 2 ^ 24) (l.getD 4 default).toNat 32 (by omega) (by omega)
  have h5 := bitop_or_add ((l.getD 0 default).toNat + (l.getD 1 default).toNat * 2 ^ 8 + (l.getD 2 default).toNat * 2 ^ 16 + (l.getD 3 default).toNat * 2 ^ 24 + (l.getD 4 default).toNat * 2 ^ 32) (l.getD 5 default).toNat 40 (by omega) (by omega)
  have h6 := bitop_or_add ((l.getD 0 default).toNat + (l.getD 1 default).toNat * 2 ^ 8 + (l.getD 2 default).toNat * 2 ^ 16 + (l.getD 3 default).toNat * 2 ^ 24 + (l.getD 4 default).toNat * 2 ^ 32 + (l.getD 5 default).toNat * 2 ^ 40) (l.getD 6 default).toNat 48 (by omega) (by omega)
  have h7 := bitop_or_add ((l.getD 0 default).toNat + (l.getD 1 default).toNat * 2 ^ 8 + (l.getD 2 default).toNat * 2 ^ 16 + (l.getD 3 default).toNat * 2 ^ 24 + (l.getD 4 default).toNat * 2 ^ 32 + (l.getD 5 default).toNat * 2 ^ 40 + (l.getD 6 default).toNat * 2 ^ 48) (l.getD 7 default).toNat 56 (by omega) (by omega)
  simp only [Nat.reducePow, Int.cast_ofNat_Int] at h1 h2 h3 h4 h5 h6 h7
  refine CallsP.intro Tryd.func56 rfl (by show 1 ≤ 71; decide) ?_
  rintro X hX
  have hn : X.n = 71 := hX
  unfold Tryd.f56
  dsimp only
  rw [entry1]
  repeat' first
   | with_reducible refine Rl.go (by constructor <;> decide) ?_
   | ((with_reducible first | refine hK _ ?_ | refine hK.1 ?_ | refine hK.2 ?_); clear hK K)
   | ((with_reducible refine condS hK (fun hg => ?_) fun hg => ?_) <;> clear hK K <;> (try simp only [hgW] at hg) <;> try (exfalso; omega))
   | ((first | ((with_reducible first | refine Rk.go k56_VsCWord (by constructor) ?_ | refine Rd.go 1 k56_VsCWord a56_1_VsCWord o56_1_VsCWord mixed (by constructor) (by kernel_rfl) (by kernel_rfl) ?_ | refine Rd.go 2 k56_VsCWord a56_2_VsCWord o56_2_VsCWord mixed (by constructor) (by kernel_rfl) (by kernel_rfl) ?_); intro K hK) | with_reducible refine Rr.go [] (by constructor) ?_ | (with_reducible refine guardP_split (fun hg => ?_) fun hg => ?_) <;> (try simp only [hg]) <;> (try simp only [hgW] at hg)) <;> simp -implicitDefEqProofs only [u8, mb8, mb16, mb24, mb32, mb40, mb48, mb56, h1, h2, h3, h4, h5, h6, h7, Int.cast_ofNat_Int, hn, go_sem, simprocAttr] <;> try (simp (disch := omega) only [wrW]; try simp -implicitDefEqProofs only [u8, mb8, mb16, mb24, mb32, mb40, mb48, mb56, h1, h2, h3, h4, h5, h6, h7, Int.cast_ofNat_Int, hn, go_sem, simprocAttr]))
   | with_reducible refine And.intro (by first | omega | (simp only [hgW]; omega)) ?_
   | (exfalso; omega)
end Go.Proofs.YtijcpdgfbboamaaDoor
