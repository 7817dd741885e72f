/- What an authenticator says as data, and what reading it comes to: plain definitions. -/
import Derived.Test.YtijcpdgfbboamaaDoorVsCWhole
import Derived.Test.YtijcpdgfbboamaaDoorVsChunk
import Derived.Test.YtijcpdgfbboamaaDoorVsCRefS
open Go Go.VS
namespace Go.Proofs.YtijcpdgfbboamaaDoor
set_option linter.unusedVariables false
structure AD where
  hs : List UInt8
  p : Bool
  v : Bool
  h : Bool
  cnt : Nat
  ms : List UInt8
  cn : Bool
  cred : List UInt8
  key : CI
  exts : CI
def z32 : List UInt8 := List.replicate 32 0
def z16 : List UInt8 := List.replicate 16 0
def AD.zero : AD := ⟨z32, false, false, false, 0, z16, true, [], .zero, .zero⟩
def CI.cs : CI → List AV
  | .mk k n bn b kn ks => [.int .u8 (k : Int), .int .u64 (n : Int), .sl none bn 1 (b.map u8), .sl none kn 4 (ks.map CI.av)]
def AD.cells (d : AD) : List AV := d.hs.map u8 ++ .bool d.p :: .bool d.v :: .bool d.h :: .int .u32 (d.cnt : Int) :: (d.ms.map u8 ++ .sl none d.cn 1 (d.cred.map u8) :: (d.key.cs ++ d.exts.cs))
def AD.av (d : AD) : AV := .agg d.cells
def bit (c : UInt8) (k : Nat) : Bool := decide (c.toNat / k % 2 = 1)
def badF (c : UInt8) : Bool := bit c 2 || bit c 8 || bit c 16 || bit c 32
/-- Has each second kid, from the i-th on, a text's kind? -/
def keysFrom (ks : List CI) (i : Nat) : Bool := ((List.range (ks.length - i)).all fun j => decide ((i + j) % 2 = 1) || decide ((ks.getD (i + j) default).k = 4))
theorem keysFrom_end (ks : List CI) (i : Nat) (hi : ks.length ≤ i) : keysFrom ks i = true := by
  unfold keysFrom
  rw [Nat.sub_eq_zero_of_le hi]
  rfl
theorem keysFrom_step (ks : List CI) (i : Nat) (hi : i < ks.length) : keysFrom ks i = ((decide (i % 2 = 1) || decide ((ks.getD i default).k = 4)) && keysFrom ks (i + 1)) := by
  unfold keysFrom
  obtain ⟨n, hn⟩ : ∃ n, ks.length - i = n + 1 := ⟨ks.length - i - 1, by omega⟩
  have hn2 : ks.length - (i + 1) = n := by omega
  rw [hn, hn2, List.range_succ_eq_map, List.all_cons, List.all_map]
  congr 1
  have : ((fun j => decide ((i + j) % 2 = 1) || decide ((ks.getD (i + j) default).k = 4)) ∘ Nat.succ) = fun j => decide ((i + 1 + j) % 2 = 1) || decide ((ks.getD (i + 1 + j) default).k = 4) := by
    funext j
    show (decide ((i + Nat.succ j) % 2 = 1) || decide ((ks.getD (i + Nat.succ j) default).k = 4)) = _
    rw [show i + Nat.succ j = i + 1 + j by omega]
  rw [this]
def textsS (i : CI) : Bool := decide (i.k = 6) && keysFrom i.ks 0
def endS (d : AD) (r : List UInt8) : AD × Nat := if r = [] then (d, 0) else (.zero, 60)
def extS (valid : List UInt8 → Bool) (f : UInt8) (d : AD) (r : List UInt8) : AD × Nat :=
  if bit f 128 = true then
    if (decS valid r).2.2 ≠ 0 then (.zero, (decS valid r).2.2)
    else if textsS (decS valid r).1 = false then (.zero, 60)
    else endS { d with exts := (decS valid r).1 } ((decS valid r).2.1.getD [])
  else endS d r
def heldS (valid : List UInt8 → Bool) (f : UInt8) (d : AD) (r : List UInt8) : AD × Nat :=
  if bit f 64 = true then
    if r.length < 18 then (.zero, 60)
    else
      let n := be ((r.drop 16).take 2)
      let q := r.drop 18
      if n < 1 ∨ 128 < n ∨ q.length < n then (.zero, 60)
      else if (decS valid (q.drop n)).2.2 ≠ 0 then (.zero, (decS valid (q.drop n)).2.2)
      else extS valid f { d with ms := r.take 16, cn := false, cred := q.take n, key := (decS valid (q.drop n)).1 } ((decS valid (q.drop n)).2.1.getD [])
  else extS valid f d r
def authS (valid : List UInt8 → Bool) (b : List UInt8) : AD × Nat :=
  if b.length < 37 ∨ badF (b.getD 32 default) = true then (.zero, 60)
  else
    let f := b.getD 32 default
    heldS valid f ⟨b.take 32, bit f 1, bit f 4, bit f 64, be ((b.drop 33).take 4), z16, true, [], .zero, .zero⟩ (b.drop 37)
theorem CI.av_cs : ∀ (i : CI), i.av = .agg i.cs
  | .mk k n bn b kn ks => by rw [CI.av, CI.cs, avs_map]
theorem cs_mk (k n : Nat) (bn : Bool) (b : List UInt8) (kn : Bool) (ks : List CI) : (CI.mk k n bn b kn ks).cs = [.int .u8 (k : Int), .int .u64 (n : Int), .sl none bn 1 (b.map u8), .sl none kn 4 (ks.map CI.av)] := rfl
theorem cs_zero : CI.zero.cs = [.int .u8 0, .int .u64 0, .sl none true 1 [], .sl none true 4 []] := rfl
theorem dec_kids (valid : List UInt8 → Bool) (b : List UInt8) : (decS valid b).1.ks.length ≤ 10000 := by
  unfold decS
  split
  · exact Nat.zero_le _
  · simp only
    split
    · exact Nat.zero_le _
    · exact (item_wide valid 8 _).1
theorem dec_some (valid : List UInt8 → Bool) (b : List UInt8) (h : (decS valid b).2.2 = 0) : ∃ l, (decS valid b).2.1 = some l ∧ l.length ≤ b.length := by
  unfold decS at h ⊢
  split at h
  · cases h
  · rename_i h1
    rw [if_neg h1]
    simp only at h ⊢
    split at h
    · rename_i h2; exact absurd h h2
    · rename_i h2
      rw [if_neg h2]
      exact ⟨_, rfl, (itemS_keeps valid 8).len ⟨b, 0, 0⟩⟩
theorem badF_cases {c : UInt8} (h : badF c = false) : bit c 2 = false ∧ bit c 8 = false ∧ bit c 16 = false ∧ bit c 32 = false := by
  unfold badF at h
  simpa [and_assoc] using h
theorem all_u8 {p : UInt8 → Prop} (h : ∀ i : Fin 256, p (UInt8.ofNat i.val)) (c : UInt8) : p c := by
  have := h ⟨c.toNat, c.toNat_lt⟩
  simpa using this
theorem fAnd (k : Nat) (c : UInt8) (hk : k = 1 ∨ k = 4 ∨ k = 64 ∨ k = 128) : decide (bitop .and .u8 (c.toNat : Int) (k : Int) = 0) = !bit c k := by
  rcases hk with rfl | rfl | rfl | rfl <;> exact all_u8 (p := fun c => decide (bitop .and .u8 (c.toNat : Int) _ = 0) = !bit c _) (by decide +kernel) c
theorem f1 (c : UInt8) : decide (bitop .and .u8 (c.toNat : Int) 1 = 0) = !bit c 1 := fAnd 1 c (by decide)
theorem f4 (c : UInt8) : decide (bitop .and .u8 (c.toNat : Int) 4 = 0) = !bit c 4 := fAnd 4 c (by decide)
theorem f64 (c : UInt8) : decide (bitop .and .u8 (c.toNat : Int) 64 = 0) = !bit c 64 := fAnd 64 c (by decide)
theorem f128 (c : UInt8) : decide (bitop .and .u8 (c.toNat : Int) 128 = 0) = !bit c 128 := fAnd 128 c (by decide)
theorem fBad (c : UInt8) : decide (bitop .andNot .u8 (c.toNat : Int) 197 = 0) = !badF c := all_u8 (p := fun c => decide (bitop .andNot .u8 (c.toNat : Int) 197 = 0) = !badF c) (by decide +kernel) c
theorem or_u32 (x : Nat) (c : UInt8) (h : x < 16777216) : bitop .or .u32 (IntKind.u32.wrap ((x : Int) * 256)) (IntKind.u32.wrap (c.toNat : Int)) = ((x * 256 + c.toNat : Nat) : Int) := by
  have hc := c.toNat_lt
  rw [Go.IntWalk.u32_in _ (by omega), Go.IntWalk.u32_in _ (by omega)]
  unfold bitop
  simp only
  rw [show (x : Int) * 256 = ((x * 256 : Nat) : Int) by omega, ofInt_nat, ofInt_nat]
  simp only [BitVec.toNat_or, BitVec.toNat_ofNat]
  have hb : IntKind.u32.bits = 32 := rfl
  rw [hb, Nat.mod_eq_of_lt (by omega), Nat.mod_eq_of_lt (by omega)]
  have := or_shift x c.toNat 8 (by omega)
  rw [show (2 : Nat) ^ 8 = 256 from rfl] at this
  rw [this]
  exact Go.IntWalk.u32_in _ (by omega)
theorem cnt4 (c0 c1 c2 c3 : UInt8) : bitop .or .u32 (IntKind.u32.wrap (bitop .or .u32 (IntKind.u32.wrap (bitop .or .u32 (IntKind.u32.wrap (bitop .or .u32 0 (IntKind.u32.wrap (c0.toNat : Int)) * 256)) (IntKind.u32.wrap (c1.toNat : Int)) * 256)) (IntKind.u32.wrap (c2.toNat : Int)) * 256)) (IntKind.u32.wrap (c3.toNat : Int)) = ((be [c0, c1, c2, c3] : Nat) : Int) := by
  have h0 := c0.toNat_lt
  have h1 := c1.toNat_lt
  have h2 := c2.toNat_lt
  have e0 : bitop .or .u32 0 (IntKind.u32.wrap (c0.toNat : Int)) = ((c0.toNat : Nat) : Int) := by
    have := or_u32 0 c0 (by decide)
    rw [show ((0 : Nat) : Int) * 256 = 0 by decide, Go.IntWalk.u32_in 0 (by decide)] at this
    simpa using this
  rw [e0, or_u32 _ _ (by omega), or_u32 _ _ (by omega), or_u32 _ _ (by omega)]
  simp [be]
end Go.Proofs.YtijcpdgfbboamaaDoor
