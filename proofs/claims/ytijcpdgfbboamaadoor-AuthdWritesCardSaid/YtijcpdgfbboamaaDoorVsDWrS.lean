/- What an authenticator says, as bytes: plain definitions; what is read is written as it was. -/
import Derived.Test.YtijcpdgfbboamaaDoorVsDOk
import Derived.Test.YtijcpdgfbboamaaDoorVsCEncT
open Go Go.VS
namespace Go.Proofs.YtijcpdgfbboamaaDoor
set_option linter.unusedVariables false
/-- The flags, so far gone over. -/
def accF (p v h x : Bool) : Nat → Nat
  | 0 => 0
  | 1 => p.toNat
  | 2 => p.toNat + 4 * v.toNat
  | 3 => p.toNat + 4 * v.toNat + 64 * h.toNat
  | _ => p.toNat + 4 * v.toNat + 64 * h.toNat + 128 * x.toNat
theorem wrap_u8' (n : Nat) : IntKind.u8.wrap (n : Int) = (((UInt8.ofNat n).toNat : Nat) : Int) := by
  have : (UInt8.ofNat n).toNat = n % 256 := by simp
  rw [this]
  simp [IntKind.wrap, IntKind.bits, IntKind.signed]
def kb (n : Nat) : List UInt8 := [UInt8.ofNat (n / 16777216), UInt8.ofNat (n / 65536), UInt8.ofNat (n / 256), UInt8.ofNat n]
theorem be_kb (n : Nat) (h : n < 4294967296) : be (kb n) = n := by
  simp [be, kb]
  omega
theorem kb_be (c0 c1 c2 c3 : UInt8) : kb (be [c0, c1, c2, c3]) = [c0, c1, c2, c3] := by
  have h0 := c0.toNat_lt
  have h1 := c1.toNat_lt
  have h2 := c2.toNat_lt
  have h3 := c3.toNat_lt
  have e : be [c0, c1, c2, c3] = ((c0.toNat * 256 + c1.toNat) * 256 + c2.toNat) * 256 + c3.toNat := by simp [be]
  have q : ∀ (c : UInt8) (n : Nat), n % 256 = c.toNat → UInt8.ofNat n = c := fun c n h => by
    apply UInt8.toNat_inj.1
    simp [h]
  unfold kb
  rw [e, q c0 _ (by omega), q c1 _ (by omega), q c2 _ (by omega), q c3 _ (by omega)]
theorem kb_av (n : Nat) : [AV.int .u8 (IntKind.u8.wrap ((n : Int).fdiv 16777216)), .int .u8 (IntKind.u8.wrap ((n : Int).fdiv 65536)), .int .u8 (IntKind.u8.wrap ((n : Int) / 256)), .int .u8 (IntKind.u8.wrap (n : Int))] = (kb n).map u8 := by
  rw [Int.fdiv_eq_ediv_of_nonneg _ (by decide), Int.fdiv_eq_ediv_of_nonneg _ (by decide)]
  rw [show (n : Int) / 16777216 = ((n / 16777216 : Nat) : Int) by omega, show (n : Int) / 65536 = ((n / 65536 : Nat) : Int) by omega, show (n : Int) / 256 = ((n / 256 : Nat) : Int) by omega]
  simp only [wrap_u8']
  rfl
def lenB (n : Nat) : List UInt8 := [UInt8.ofNat (n / 256), UInt8.ofNat n]
/-- What stands ahead of the credential. -/
def headD (d : AD) : List UInt8 := d.hs ++ UInt8.ofNat (accF d.p d.v d.h (decide (d.exts.k = 6)) 4) :: kb d.cnt
def extW (valid : List UInt8 → Bool) (d : AD) (out : List UInt8) : List UInt8 × Nat :=
  if d.exts.k = 6 then
    if (encS valid d.exts).2 ≠ 0 then ([], (encS valid d.exts).2)
    else if keysFrom d.exts.ks 0 = false then ([], 60)
    else (out ++ (encS valid d.exts).1, 0)
  else (out, 0)
def writeS (valid : List UInt8 → Bool) (d : AD) : List UInt8 × Nat :=
  if d.h = true then
    if d.cred.length < 1 ∨ 128 < d.cred.length then ([], 60)
    else if (encS valid d.key).2 ≠ 0 then ([], (encS valid d.key).2)
    else extW valid d (headD d ++ d.ms ++ lenB d.cred.length ++ d.cred ++ (encS valid d.key).1)
  else extW valid d (headD d)
/-- What may be written. -/
structure AD.Wr (d : AD) : Prop where
  hs : d.hs.length = 32
  ms : d.ms.length = 16
  cnt : d.cnt < 4294967296
  cn : d.cn = true → d.cred = []
  cl : d.cred.length ≤ 100000000
  key : Fit 8 d.key
  exts : Fit 8 d.exts
end Go.Proofs.YtijcpdgfbboamaaDoor
