/- Where a walk stops, and what stands behind the first statement. -/
import Derived.Test.YtijcpdgfbboamaaDoorVsCWhole
import Derived.Test.YtijcpdgfbboamaaDoorVsChunk
import Derived.Test.YtijcpdgfbboamaaDoorVsCRefS
open Go Go.VS
namespace Go.Proofs.YtijcpdgfbboamaaDoor
set_option linter.unusedVariables false
def tlD (c : Code) : Code := match c with
  | .seq _ b => b
  | c => c
def MarkD (p : Prop) : Prop := p
theorem markD (id : Nat) {P : Program} {X : Ent} {ops : Array Oper} {d : Bool} {x y : Code} {Q : Exit → St → Prop} {st : St} (h : MarkD (AWP P X (.seq (.seq (.region id ops d) x) y) Q st)) : AWP P X (.seq (.seq (.region id ops d) x) y) Q st := h
theorem markDQ (id : Nat) {P : Program} {X : Ent} {ops : Array Oper} {d : Bool} {y : Code} {Q : Exit → St → Prop} {st : St} (h : MarkD (AWP P X (.seq (.region id ops d) y) Q st)) : AWP P X (.seq (.region id ops d) y) Q st := h
end Go.Proofs.YtijcpdgfbboamaaDoor
open Go Go.VS
namespace Go.Proofs.YtijcpdgfbboamaaDoor
set_option linter.unusedVariables false
structure AD where
  hs : List UInt8
  p : Bool
  v : Bool
  h : Bool
  cnt : Nat
  ms : List UInt8
  cn : Bool
  cred : List UInt8
  key : CI
  exts : CI
def z32 : List UInt8 := List.replicate 32 0
def z16 : List UInt8 := List.replicate 16 0
def AD.zero : AD := ⟨z32, false, false, false, 0, z16, true, [], .zero, .zero⟩
def CI.cs : CI → List AV
  | .mk k n bn b kn ks => [.int .u8 (k : Int), .int .u64 (n : Int), .sl none bn 1 (b.map u8), .sl none kn 4 (ks.map CI.av)]
def AD.cells (d : AD) : List AV := d.hs.map u8 ++ .bool d.p :: .bool d.v :: .bool d.h :: .int .u32 (d.cnt : Int) :: (d.ms.map u8 ++ .sl none d.cn 1 (d.cred.map u8) :: (d.key.cs ++ d.exts.cs))
def AD.av (d : AD) : AV := .agg d.cells
def bit (c : UInt8) (k : Nat) : Bool := decide (c.toNat / k % 2 = 1)
def badF (c : UInt8) : Bool := bit c 2 || bit c 8 || bit c 16 || bit c 32
/-- Has each second kid, from the i-th on, a text's kind? -/
def keysFrom (ks : List CI) (i : Nat) : Bool := ((List.range (ks.length - i)).all fun j => decide ((i + j) % 2 = 1) || decide ((ks.getD (i + j) default).k = 4))
theorem keysFrom_end (ks : List CI) (i : Nat) (hi : ks.length ≤ i) : keysFrom ks i = true := by
  unfold keysFrom
  rw [Nat.sub_eq_zero_of_le hi]
  rfl
theorem keysFrom_step (ks : List CI) (i : Nat) (hi : i < ks.length) : keysFrom ks i = ((decide (i % 2 = 1) || decide ((ks.getD i default).k = 4)) && keysFrom ks (i + 1)) := by
  unfold keysFrom
  obtain ⟨n, hn⟩ : ∃ n, ks.length - i = n + 1 := ⟨ks.length - i - 1, by omega⟩
  have hn2 : ks.length - (i + 1) = n := by omega
  rw [hn, hn2, List.range_succ_eq_map, List.all_cons, List.all_map]
  congr 1
  have : ((fun j => decide ((i + j) % 2 = 1) || decide ((ks.getD (i + j) default).k = 4)) ∘ Nat.succ) = fun j => decide ((i + 1 + j) % 2 = 1) || decide ((ks.getD (i + 1 + j) default).k = 4) := by
    funext j
    show (decide ((i + Nat.succ j) % 2 = 1) || decide ((ks.getD (i + Nat.succ j) default).k = 4)) = _
    rw [show i + Nat.succ j = i + 1 + j by omega]
  rw [this]
def textsS (i : CI) : Bool := decide (i.k = 6) && keysFrom i.ks 0
def endS (d : AD) (r : List UInt8) : AD × Nat := if r = [] then (d, 0) else (.zero, 60)
def extS (valid : List UInt8 → Bool) (f : UInt8) (d : AD) (r : List UInt8) : AD × Nat :=
  if bit f 128 = true then
    if (decS valid r).2.2 ≠ 0 then (.zero, (decS valid r).2.2)
    else if textsS (decS valid r).1 = false then (.zero, 60)
    else endS { d with exts := (decS valid r).1 } ((decS valid r).2.1.getD [])
  else endS d r
def heldS (valid : List UInt8 → Bool) (f : UInt8) (d : AD) (r : List UInt8) : AD × Nat :=
  if bit f 64 = true then
    if r.length < 18 then (.zero, 60)
    else
      let n := be ((r.drop 16).take 2)
      let q := r.drop 18
      if n < 1 ∨ 128 < n ∨ q.length < n then (.zero, 60)
      else if (decS valid (q.drop n)).2.2 ≠ 0 then (.zero, (decS valid (q.drop n)).2.2)
      else extS valid f { d with ms := r.take 16, cn := false, cred := q.take n, key := (decS valid (q.drop n)).1 } ((decS valid (q.drop n)).2.1.getD [])
  else extS valid f d r
def authS (valid : List UInt8 → Bool) (b : List UInt8) : AD × Nat :=
  if b.length < 37 ∨ badF (b.getD 32 default) = true then (.zero, 60)
  else
    let f := b.getD 32 default
    heldS valid f ⟨b.take 32, bit f 1, bit f 4, bit f 64, be ((b.drop 33).take 4), z16, true, [], .zero, .zero⟩ (b.drop 37)
theorem CI.av_cs : ∀ (i : CI), i.av = .agg i.cs
  | .mk k n bn b kn ks => by rw [CI.av, CI.cs, avs_map]
theorem cs_mk (k n : Nat) (bn : Bool) (b : List UInt8) (kn : Bool) (ks : List CI) : (CI.mk k n bn b kn ks).cs = [.int .u8 (k : Int), .int .u64 (n : Int), .sl none bn 1 (b.map u8), .sl none kn 4 (ks.map CI.av)] := rfl
theorem cs_zero : CI.zero.cs = [.int .u8 0, .int .u64 0, .sl none true 1 [], .sl none true 4 []] := rfl
theorem dec_kids (valid : List UInt8 → Bool) (b : List UInt8) : (decS valid b).1.ks.length ≤ 10000 := by
  unfold decS
  split
  · exact Nat.zero_le _
  · simp only
    split
    · exact Nat.zero_le _
    · exact (item_wide valid 8 _).1
theorem dec_some (valid : List UInt8 → Bool) (b : List UInt8) (h : (decS valid b).2.2 = 0) : ∃ l, (decS valid b).2.1 = some l ∧ l.length ≤ b.length := by
  unfold decS at h ⊢
  split at h
  · cases h
  · rename_i h1
    rw [if_neg h1]
    simp only at h ⊢
    split at h
    · rename_i h2; exact absurd h h2
    · rename_i h2
      rw [if_neg h2]
      exact ⟨_, rfl, (itemS_keeps valid 8).len ⟨b, 0, 0⟩⟩
theorem badF_cases {c : UInt8} (h : badF c = false) : bit c 2 = false ∧ bit c 8 = false ∧ bit c 16 = false ∧ bit c 32 = false := by
  unfold badF at h
  simpa [and_assoc] using h
theorem all_u8 {p : UInt8 → Prop} (h : ∀ i : Fin 256, p (UInt8.ofNat i.val)) (c : UInt8) : p c := by
  have := h ⟨c.toNat, c.toNat_lt⟩
  simpa using this
theorem fAnd (k : Nat) (c : UInt8) (hk : k = 1 ∨ k = 4 ∨ k = 64 ∨ k = 128) : decide (bitop .and .u8 (c.toNat : Int) (k : Int) = 0) = !bit c k := by
  rcases hk with rfl | rfl | rfl | rfl <;> exact all_u8 (p := fun c => decide (bitop .and .u8 (c.toNat : Int) _ = 0) = !bit c _) (by decide +kernel) c
theorem f1 (c : UInt8) : decide (bitop .and .u8 (c.toNat : Int) 1 = 0) = !bit c 1 := fAnd 1 c (by decide)
theorem f4 (c : UInt8) : decide (bitop .and .u8 (c.toNat : Int) 4 = 0) = !bit c 4 := fAnd 4 c (by decide)
theorem f64 (c : UInt8) : decide (bitop .and .u8 (c.toNat : Int) 64 = 0) = !bit c 64 := fAnd 64 c (by decide)
theorem f128 (c : UInt8) : decide (bitop .and .u8 (c.toNat : Int) 128 = 0) = !bit c 128 := fAnd 128 c (by decide)
theorem fBad (c : UInt8) : decide (bitop .andNot .u8 (c.toNat : Int) 197 = 0) = !badF c := all_u8 (p := fun c => decide (bitop .andNot .u8 (c.toNat : Int) 197 = 0) = !badF c) (by decide +kernel) c
theorem or_u32 (x : Nat) (c : UInt8) (h : x < 16777216) : bitop .or .u32 (IntKind.u32.wrap ((x : Int) * 256)) (IntKind.u32.wrap (c.toNat : Int)) = ((x * 256 + c.toNat : Nat) : Int) := by
  have hc := c.toNat_lt
  rw [Go.IntWalk.u32_in _ (by omega), Go.IntWalk.u32_in _ (by omega)]
  unfold bitop
  simp only
  rw [show (x : Int) * 256 = ((x * 256 : Nat) : Int) by omega, ofInt_nat, ofInt_nat]
  simp only [BitVec.toNat_or, BitVec.toNat_ofNat]
  have hb : IntKind.u32.bits = 32 := rfl
  rw [hb, Nat.mod_eq_of_lt (by omega), Nat.mod_eq_of_lt (by omega)]
  have := or_shift x c.toNat 8 (by omega)
  rw [show (2 : Nat) ^ 8 = 256 from rfl] at this
  rw [this]
  exact Go.IntWalk.u32_in _ (by omega)
theorem cnt4 (c0 c1 c2 c3 : UInt8) : bitop .or .u32 (IntKind.u32.wrap (bitop .or .u32 (IntKind.u32.wrap (bitop .or .u32 (IntKind.u32.wrap (bitop .or .u32 0 (IntKind.u32.wrap (c0.toNat : Int)) * 256)) (IntKind.u32.wrap (c1.toNat : Int)) * 256)) (IntKind.u32.wrap (c2.toNat : Int)) * 256)) (IntKind.u32.wrap (c3.toNat : Int)) = ((be [c0, c1, c2, c3] : Nat) : Int) := by
  have h0 := c0.toNat_lt
  have h1 := c1.toNat_lt
  have h2 := c2.toNat_lt
  have e0 : bitop .or .u32 0 (IntKind.u32.wrap (c0.toNat : Int)) = ((c0.toNat : Nat) : Int) := by
    have := or_u32 0 c0 (by decide)
    rw [show ((0 : Nat) : Int) * 256 = 0 by decide, Go.IntWalk.u32_in 0 (by decide)] at this
    simpa using this
  rw [e0, or_u32 _ _ (by omega), or_u32 _ _ (by omega), or_u32 _ _ (by omega)]
  simp [be]
end Go.Proofs.YtijcpdgfbboamaaDoor
open Go Go.VS
namespace Go.Proofs.YtijcpdgfbboamaaDoor
set_option linter.unusedVariables false
set_option linter.unusedSimpArgs false
/-- A row's first so many. -/
theorem cut32 (b : List UInt8) (h : 37 ≤ b.length) : ∃ hs f c0 c1 c2 c3 r, hs.length = 32 ∧ b = hs ++ f :: c0 :: c1 :: c2 :: c3 :: r := by
  refine ⟨b.take 32, b.getD 32 default, b.getD 33 default, b.getD 34 default, b.getD 35 default, b.getD 36 default, b.drop 37, by rw [List.length_take]; omega, ?_⟩
  have e : ∀ i, i < b.length → b.drop i = b.getD i default :: b.drop (i + 1) := fun i hi => by
    rw [List.drop_eq_getElem_cons hi, List.getD_eq_getElem?_getD, List.getElem?_eq_getElem hi]
    rfl
  rw [← e 36 (by omega), ← e 35 (by omega), ← e 34 (by omega), ← e 33 (by omega), ← e 32 (by omega), List.take_append_drop]
theorem cut16 (b : List UInt8) (h : 18 ≤ b.length) : ∃ ms n0 n1 q, ms.length = 16 ∧ b = ms ++ n0 :: n1 :: q := by
  refine ⟨b.take 16, b.getD 16 default, b.getD 17 default, b.drop 18, by rw [List.length_take]; omega, ?_⟩
  have e : ∀ i, i < b.length → b.drop i = b.getD i default :: b.drop (i + 1) := fun i hi => by
    rw [List.drop_eq_getElem_cons hi, List.getD_eq_getElem?_getD, List.getElem?_eq_getElem hi]
    rfl
  rw [← e 17 (by omega), ← e 16 (by omega), List.take_append_drop]
theorem authS_cut (valid : List UInt8 → Bool) {hs : List UInt8} (hlen : hs.length = 32) (f c0 c1 c2 c3 : UInt8) (r : List UInt8) :
    authS valid (hs ++ f :: c0 :: c1 :: c2 :: c3 :: r) = if badF f = true then (.zero, 60) else heldS valid f ⟨hs, bit f 1, bit f 4, bit f 64, be [c0, c1, c2, c3], z16, true, [], .zero, .zero⟩ r := by
  unfold authS
  have a1 := ap_getD hlen (f :: c0 :: c1 :: c2 :: c3 :: r) 0 default
  have a2 := ap_take hlen (f :: c0 :: c1 :: c2 :: c3 :: r) 0
  have a3 := ap_drop hlen (f :: c0 :: c1 :: c2 :: c3 :: r) 1
  have a4 := ap_drop hlen (f :: c0 :: c1 :: c2 :: c3 :: r) 5
  simp only [Nat.zero_add] at a1 a2
  rw [a1, a2, a3, a4]
  have h37 : ¬ (hs ++ f :: c0 :: c1 :: c2 :: c3 :: r).length < 37 := by simp [hlen]; omega
  by_cases hq : badF f = true
  · rw [if_pos (.inr hq), if_pos hq]
  · rw [if_neg (fun x => x.elim h37 hq), if_neg hq]
    simp
theorem heldS_cut (valid : List UInt8 → Bool) (f : UInt8) (d : AD) {ms : List UInt8} (mlen : ms.length = 16) (n0 n1 : UInt8) (q : List UInt8) (hf : bit f 64 = true) (N : Nat) (hN : N = n0.toNat * 256 + n1.toNat) :
    heldS valid f d (ms ++ n0 :: n1 :: q) = if N < 1 ∨ 128 < N ∨ q.length < N then (.zero, 60) else if (decS valid (q.drop N)).2.2 ≠ 0 then (.zero, (decS valid (q.drop N)).2.2)
      else extS valid f { d with ms := ms, cn := false, cred := q.take N, key := (decS valid (q.drop N)).1 } ((decS valid (q.drop N)).2.1.getD []) := by
  unfold heldS
  have a2 := ap_take mlen (n0 :: n1 :: q) 0
  have a3 := ap_drop mlen (n0 :: n1 :: q) 0
  have a4 := ap_drop mlen (n0 :: n1 :: q) 2
  simp only [Nat.zero_add] at a2 a3
  have h18 : ¬ (ms ++ n0 :: n1 :: q).length < 18 := by simp [mlen]; omega
  rw [if_pos hf, if_neg h18]
  simp only [a2, a3, a4]
  have hb : be (List.take 2 (List.drop 0 (n0 :: n1 :: q))) = N := by simp [be, hN]
  rw [hb]
  simp
end Go.Proofs.YtijcpdgfbboamaaDoor
open Go Go.VS
namespace Go.Proofs.YtijcpdgfbboamaaDoor
set_option linter.unusedVariables false
structure AD.Ok (d : AD) : Prop where
  hs : d.hs.length = 32
  ms : d.ms.length = 16
  key : Wide 8 d.key
  exts : Wide 8 d.exts
theorem AD.zero_ok : AD.zero.Ok := ⟨rfl, rfl, Wide.leaf _ rfl, Wide.leaf _ rfl⟩
theorem dec_wide3 (valid : List UInt8 → Bool) (b : List UInt8) : Wide 8 (decS valid b).1 := by
  unfold decS
  split
  · exact Wide.leaf _ rfl
  · simp only
    split
    · exact Wide.leaf _ rfl
    · exact item_wide valid 8 _
theorem endS_ok {d : AD} (h : d.Ok) (r : List UInt8) : (endS d r).1.Ok := by
  unfold endS
  split
  · exact h
  · exact AD.zero_ok
theorem extS_ok (valid : List UInt8 → Bool) (f : UInt8) {d : AD} (h : d.Ok) (r : List UInt8) : (extS valid f d r).1.Ok := by
  unfold extS
  split
  · split
    · exact AD.zero_ok
    split
    · exact AD.zero_ok
    · exact endS_ok (d := { d with exts := (decS valid r).1 }) ⟨h.hs, h.ms, h.key, dec_wide3 valid r⟩ _
  · exact endS_ok h r
theorem authS_ok (valid : List UInt8 → Bool) (b : List UInt8) : (authS valid b).1.Ok := by
  unfold authS
  split
  · exact AD.zero_ok
  · rename_i h
    have h37 : ¬ b.length < 37 := fun x => h (.inl x)
    simp only
    unfold heldS
    split
    · split
      · exact AD.zero_ok
      · rename_i h18
        simp only
        split
        · exact AD.zero_ok
        split
        · exact AD.zero_ok
        · exact extS_ok valid _ ⟨by simp; omega, by simp only [List.length_drop] at h18; simp; omega, dec_wide3 valid _, Wide.leaf _ rfl⟩ _
    · exact extS_ok valid _ ⟨by simp; omega, rfl, Wide.leaf _ rfl, Wide.leaf _ rfl⟩ _
theorem ba43 : Tryd.prog.byteArr 43 32 = true := by kernel_rfl
theorem ba46 : Tryd.prog.byteArr 46 16 = true := by kernel_rfl
end Go.Proofs.YtijcpdgfbboamaaDoor
