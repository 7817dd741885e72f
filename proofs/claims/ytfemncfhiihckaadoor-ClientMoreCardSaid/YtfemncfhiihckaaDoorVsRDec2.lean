/- Base64's signs, read back: b64.value, b64.Decode. -/
import Derived.Test.YtfemncfhiihckaaDoorVsTy
import Derived.Test.YtfemncfhiihckaaDoorVsTree
open Go Go.VS
namespace Go.Proofs.YtfemncfhiihckaaDoor
set_option linter.unusedVariables false
set_option linter.unusedSimpArgs false
set_option maxRecDepth 20000
set_option maxHeartbeats 4000000
def valB (c : Nat) : Option Nat :=
  if 65 ≤ c ∧ c ≤ 90 then some (c - 65)
  else if 97 ≤ c ∧ c ≤ 122 then some (c - 71)
  else if 48 ≤ c ∧ c ≤ 57 then some (c + 4)
  else if c = 45 then some 62
  else if c = 95 then some 63
  else none
theorem valB_lt {c v : Nat} (h : valB c = some v) : v < 64 := by
  unfold valB at h
  (repeat' split at h) <;> cases h <;> omega
def k50_VsRDec : List Nat := [0,2,3,4,14,25,36,39]
attribute [go_sem] k50_VsRDec
theorem f50_some (c v : Nat) (hv : valB c = some v) : CallsP Tryd.prog 50 [.int .i32 (c : Int)] (.tup [.int .u8 (v : Int), .bool true]) := by
  have hl := valB_lt hv
  unfold valB at hv
  by_cases h1 : 65 ≤ c ∧ c ≤ 90
  · rw [if_pos h1] at hv
    obtain rfl := (Option.some.inj hv).symm
    obtain ⟨d, rfl⟩ : ∃ d, c = d + 65 := ⟨c - 65, by omega⟩
    have e : ((d + 65 : Nat) : Int) - 65 = (d : Int) := by omega
    refine CallsP.intro Tryd.func50 rfl (by show 1 ≤ 42; decide) ?_
    rintro X hX
    have hn : X.n = 42 := hX
    unfold Tryd.f50
    dsimp only
    rw [entry1]
    repeat' first
     | with_reducible refine Rl.go (by constructor <;> decide) ?_
     | ((with_reducible first | refine hK _ ?_ | refine hK.1 ?_ | refine hK.2 ?_); clear hK K)
     | ((with_reducible refine condS hK (fun hg => ?_) fun hg => ?_) <;> clear hK K <;> (try simp only [hgW] at hg) <;> try (exfalso; omega))
     | ((first | ((with_reducible first | refine Rk.go k50_VsRDec (by constructor) ?_); intro K hK) | with_reducible refine Rr.go [] (by constructor) ?_ | (with_reducible refine guardP_split (fun hg => ?_) fun hg => ?_) <;> (try simp only [hg]) <;> (try simp only [hgW] at hg)) <;> simp -implicitDefEqProofs only [e, hn, go_sem, simprocAttr] <;> try (simp (disch := omega) only [wrW, Go.IntWalk.i32_in]; try simp -implicitDefEqProofs only [e, hn, go_sem, simprocAttr]))
     | with_reducible refine And.intro (by first | omega | (simp only [hgW]; omega)) ?_
     | (exfalso; omega)
  rw [if_neg h1] at hv
  by_cases h2 : 97 ≤ c ∧ c ≤ 122
  · rw [if_pos h2] at hv
    obtain rfl := (Option.some.inj hv).symm
    have e : (c : Int) - 97 + 26 = ((c - 71 : Nat) : Int) := by omega
    refine CallsP.intro Tryd.func50 rfl (by show 1 ≤ 42; decide) ?_
    rintro X hX
    have hn : X.n = 42 := hX
    unfold Tryd.f50
    dsimp only
    rw [entry1]
    repeat' first
     | with_reducible refine Rl.go (by constructor <;> decide) ?_
     | ((with_reducible first | refine hK _ ?_ | refine hK.1 ?_ | refine hK.2 ?_); clear hK K)
     | ((with_reducible refine condS hK (fun hg => ?_) fun hg => ?_) <;> clear hK K <;> (try simp only [hgW] at hg) <;> try (exfalso; omega))
     | ((first | ((with_reducible first | refine Rk.go k50_VsRDec (by constructor) ?_); intro K hK) | with_reducible refine Rr.go [] (by constructor) ?_ | (with_reducible refine guardP_split (fun hg => ?_) fun hg => ?_) <;> (try simp only [hg]) <;> (try simp only [hgW] at hg)) <;> simp -implicitDefEqProofs only [e, hn, go_sem, simprocAttr] <;> try (simp (disch := omega) only [wrW, Go.IntWalk.i32_in]; try simp -implicitDefEqProofs only [e, hn, go_sem, simprocAttr]))
     | with_reducible refine And.intro (by first | omega | (simp only [hgW]; omega)) ?_
     | (exfalso; omega)
  rw [if_neg h2] at hv
  by_cases h3 : 48 ≤ c ∧ c ≤ 57
  · rw [if_pos h3] at hv
    obtain rfl := (Option.some.inj hv).symm
    have e : (c : Int) - 48 + 52 = ((c + 4 : Nat) : Int) := by omega
    refine CallsP.intro Tryd.func50 rfl (by show 1 ≤ 42; decide) ?_
    rintro X hX
    have hn : X.n = 42 := hX
    unfold Tryd.f50
    dsimp only
    rw [entry1]
    repeat' first
     | with_reducible refine Rl.go (by constructor <;> decide) ?_
     | ((with_reducible first | refine hK _ ?_ | refine hK.1 ?_ | refine hK.2 ?_); clear hK K)
     | ((with_reducible refine condS hK (fun hg => ?_) fun hg => ?_) <;> clear hK K <;> (try simp only [hgW] at hg) <;> try (exfalso; omega))
     | ((first | ((with_reducible first | refine Rk.go k50_VsRDec (by constructor) ?_); intro K hK) | with_reducible refine Rr.go [] (by constructor) ?_ | (with_reducible refine guardP_split (fun hg => ?_) fun hg => ?_) <;> (try simp only [hg]) <;> (try simp only [hgW] at hg)) <;> simp -implicitDefEqProofs only [e, hn, go_sem, simprocAttr] <;> try (simp (disch := omega) only [wrW, Go.IntWalk.i32_in]; try simp -implicitDefEqProofs only [e, hn, go_sem, simprocAttr]))
     | with_reducible refine And.intro (by first | omega | (simp only [hgW]; omega)) ?_
     | (exfalso; omega)
  rw [if_neg h3] at hv
  by_cases h4 : c = 45
  · subst h4
    rw [if_pos rfl] at hv
    obtain rfl := (Option.some.inj hv).symm
    refine CallsP.intro Tryd.func50 rfl (by show 1 ≤ 42; decide) ?_
    rintro X hX
    have hn : X.n = 42 := hX
    unfold Tryd.f50
    dsimp only
    rw [entry1]
    repeat' first
     | with_reducible refine Rl.go (by constructor <;> decide) ?_
     | ((with_reducible first | refine hK _ ?_ | refine hK.1 ?_ | refine hK.2 ?_); clear hK K)
     | ((with_reducible refine condS hK (fun hg => ?_) fun hg => ?_) <;> clear hK K <;> (try simp only [hgW] at hg) <;> try (exfalso; omega))
     | ((first | ((with_reducible first | refine Rk.go k50_VsRDec (by constructor) ?_); intro K hK) | with_reducible refine Rr.go [] (by constructor) ?_ | (with_reducible refine guardP_split (fun hg => ?_) fun hg => ?_) <;> (try simp only [hg]) <;> (try simp only [hgW] at hg)) <;> simp -implicitDefEqProofs only [hn, go_sem, simprocAttr] <;> try (simp (disch := omega) only [wrW, Go.IntWalk.i32_in]; try simp -implicitDefEqProofs only [hn, go_sem, simprocAttr]))
     | with_reducible refine And.intro (by first | omega | (simp only [hgW]; omega)) ?_
     | (exfalso; omega)
  rw [if_neg h4] at hv
  by_cases h5 : c = 95
  · subst h5
    rw [if_pos rfl] at hv
    obtain rfl := (Option.some.inj hv).symm
    refine CallsP.intro Tryd.func50 rfl (by show 1 ≤ 42; decide) ?_
    rintro X hX
    have hn : X.n = 42 := hX
    unfold Tryd.f50
    dsimp only
    rw [entry1]
    repeat' first
     | with_reducible refine Rl.go (by constructor <;> decide) ?_
     | ((with_reducible first | refine hK _ ?_ | refine hK.1 ?_ | refine hK.2 ?_); clear hK K)
     | ((with_reducible refine condS hK (fun hg => ?_) fun hg => ?_) <;> clear hK K <;> (try simp only [hgW] at hg) <;> try (exfalso; omega))
     | ((first | ((with_reducible first | refine Rk.go k50_VsRDec (by constructor) ?_); intro K hK) | with_reducible refine Rr.go [] (by constructor) ?_ | (with_reducible refine guardP_split (fun hg => ?_) fun hg => ?_) <;> (try simp only [hg]) <;> (try simp only [hgW] at hg)) <;> simp -implicitDefEqProofs only [hn, go_sem, simprocAttr] <;> try (simp (disch := omega) only [wrW, Go.IntWalk.i32_in]; try simp -implicitDefEqProofs only [hn, go_sem, simprocAttr]))
     | with_reducible refine And.intro (by first | omega | (simp only [hgW]; omega)) ?_
     | (exfalso; omega)
  · rw [if_neg h5] at hv
    cases hv
theorem f50_none (c : Nat) (hv : valB c = none) : CallsP Tryd.prog 50 [.int .i32 (c : Int)] (.tup [.int .u8 0, .bool false]) := by
  have h : ¬ (65 ≤ c ∧ c ≤ 90) ∧ ¬ (97 ≤ c ∧ c ≤ 122) ∧ ¬ (48 ≤ c ∧ c ≤ 57) ∧ c ≠ 45 ∧ c ≠ 95 := by
    unfold valB at hv
    (repeat' split at hv) <;> first | cases hv | skip
    rename_i a b c d e
    exact ⟨a, b, c, d, e⟩
  refine CallsP.intro Tryd.func50 rfl (by show 1 ≤ 42; decide) ?_
  rintro X hX
  have hn : X.n = 42 := hX
  unfold Tryd.f50
  dsimp only
  rw [entry1]
  repeat' first
   | with_reducible refine Rl.go (by constructor <;> decide) ?_
   | ((with_reducible first | refine hK _ ?_ | refine hK.1 ?_ | refine hK.2 ?_); clear hK K)
   | ((with_reducible refine condS hK (fun hg => ?_) fun hg => ?_) <;> clear hK K <;> (try simp only [hgW] at hg) <;> try (exfalso; omega))
   | ((first | ((with_reducible first | refine Rk.go k50_VsRDec (by constructor) ?_); intro K hK) | with_reducible refine Rr.go [] (by constructor) ?_ | (with_reducible refine guardP_split (fun hg => ?_) fun hg => ?_) <;> (try simp only [hg]) <;> (try simp only [hgW] at hg)) <;> simp -implicitDefEqProofs only [hn, go_sem, simprocAttr] <;> try (simp (disch := omega) only [wrW, Go.IntWalk.i32_in]; try simp -implicitDefEqProofs only [hn, go_sem, simprocAttr]))
   | with_reducible refine And.intro (by first | omega | (simp only [hgW]; omega)) ?_
   | (exfalso; omega)
end Go.Proofs.YtfemncfhiihckaaDoor
open Go Go.VS
namespace Go.Proofs.YtfemncfhiihckaaDoor
set_option linter.unusedVariables false
set_option linter.unusedSimpArgs false
set_option maxRecDepth 20000
set_option maxHeartbeats 4000000
def accB (a v : Nat) : Nat := a * 64 % 4294967296 + v
/-- The signs, one behind the other: what is at hand, how many bits of it count, what has come out. -/
def dcG (a n : Nat) (out : List UInt8) : List UInt8 → Option (Nat × Nat × List UInt8)
  | [] => some (a, n, out)
  | c :: t =>
    match valB (Go.Lib.decodeL (c :: t)).1 with
    | none => none
    | some v => if 8 ≤ n + 6 then dcG (accB a v) (n - 2) (out ++ [UInt8.ofNat (accB a v / 2 ^ (n - 2))]) ((c :: t).drop (Go.Lib.decodeL (c :: t)).2) else dcG (accB a v) (n + 6) out ((c :: t).drop (Go.Lib.decodeL (c :: t)).2)
  termination_by r => r.length
  decreasing_by
    all_goals
      have := Go.Lib.decodeL_width (c :: t)
      simp only [List.length_drop, List.length_cons]
      omega
/-- What Decode answers: bytes, and an error's number. -/
def decS (s : List UInt8) : List UInt8 × Nat :=
  if 16384 < s.length then ([], 3)
  else match dcG 0 0 [] s with
    | none => ([], 10)
    | some (a, n, out) => if 6 ≤ n ∨ a % 2 ^ n ≠ 0 then ([], 10) else (out, 0)
theorem or_u32 (m v : Nat) (hm : m * 64 < 4294967296) (hv : v < 64) : bitop .or .u32 ((m * 64 : Nat) : Int) (v : Int) = ((m * 64 + v : Nat) : Int) := by
  unfold bitop
  simp only
  rw [ofInt_nat, ofInt_nat]
  simp only [BitVec.toNat_or, BitVec.toNat_ofNat]
  have hb : IntKind.u32.bits = 32 := rfl
  rw [hb, Nat.mod_eq_of_lt (by omega), Nat.mod_eq_of_lt (by omega)]
  have := or_shift m v 6 (by omega)
  rw [show (2 : Nat) ^ 6 = 64 from rfl] at this
  rw [this]
  exact Go.IntWalk.u32_in _ (by omega)
theorem and_u32 (a n : Nat) (ha : a < 4294967296) (hn : n < 6) : bitop .and .u32 (a : Int) ((2 ^ n - 1 : Nat) : Int) = ((a % 2 ^ n : Nat) : Int) := by
  unfold bitop
  simp only
  rw [ofInt_nat, ofInt_nat]
  simp only [BitVec.toNat_and, BitVec.toNat_ofNat]
  have hb : IntKind.u32.bits = 32 := rfl
  have h2 : 2 ^ n ≤ 2 ^ 6 := Nat.pow_le_pow_right (by decide) (by omega)
  have h3 : 0 < 2 ^ n := Nat.two_pow_pos n
  rw [hb, Nat.mod_eq_of_lt (by omega), Nat.mod_eq_of_lt (by omega), and_low]
  have h4 : a % 2 ^ n < 2 ^ n := Nat.mod_lt _ h3
  exact Go.IntWalk.u32_in _ (by omega)
theorem wrap_u32 (x : Nat) : IntKind.u32.wrap (x : Int) = ((x % 4294967296 : Nat) : Int) := by
  unfold IntKind.wrap
  simp [IntKind.signed, IntKind.bits]
theorem wrap_u8 (x : Nat) : IntKind.u8.wrap (x : Int) = ((UInt8.ofNat x).toNat : Int) := by
  unfold IntKind.wrap
  rw [UInt8.toNat_ofNat']
  simp [IntKind.signed, IntKind.bits]
def k38_VsRDec2 : List Nat := [0,2,3,4,5,6,8,9,10,13,15,16,17,25,34,53,55]
attribute [go_sem] k38_VsRDec2
theorem f38_ok (s : List UInt8) : CallsP Tryd.prog 38 [.str s] (.tup [.sl none (decS s).1.isEmpty 1 ((decS s).1.map u8), .int .i64 ((decS s).2 : Int)]) := by
  obtain ⟨R, hR⟩ : ∃ R, decS s = R := ⟨_, rfl⟩
  rw [hR]
  unfold decS at hR
  by_cases hl : 16384 < s.length
  · rw [if_pos hl] at hR
    subst hR
    refine CallsP.introF Tryd.func38 rfl (by show 1 ≤ 55; decide) ?_
    rintro X hX
    have hn : X.n = 55 := hX
    unfold Tryd.f38
    dsimp only
    rw [entryB_0, entry1]
    repeat' first
     | (refine fun (ib : Nat) => ?_)
     | with_reducible refine Rl.go (by constructor <;> decide) ?_
     | ((with_reducible first | refine hK _ ?_ | refine hK.1 ?_ | refine hK.2 ?_); clear hK K)
     | ((with_reducible refine condS hK (fun hg => ?_) fun hg => ?_) <;> clear hK K <;> (try simp only [hgW] at hg) <;> try (exfalso; omega))
     | ((first | ((with_reducible first | refine Rk.go k38_VsRDec2 (by constructor) ?_); intro K hK) | with_reducible refine Rr.go [] (by constructor) ?_ | (with_reducible refine guardP_split (fun hg => ?_) fun hg => ?_) <;> (try simp only [hg]) <;> (try simp only [hgW] at hg)) <;> simp -implicitDefEqProofs only [isHid, hn, go_sem, simprocAttr] <;> try (simp (disch := omega) only [wrW]; try simp -implicitDefEqProofs only [isHid, hn, go_sem, simprocAttr]))
     | with_reducible refine And.intro (by first | omega | (simp only [hgW]; omega)) ?_
     | (exfalso; omega)
  rw [if_neg hl] at hR
  refine CallsP.introF Tryd.func38 rfl (by show 1 ≤ 55; decide) ?_
  rintro X hX
  have hn : X.n = 55 := hX
  unfold Tryd.f38
  dsimp only
  rw [entryB_0, entry1]
  repeat' first
   | (refine fun (ib : Nat) => ?_)
   | with_reducible refine Rl.go (by constructor <;> decide) ?_
   | ((with_reducible first | refine hK _ ?_ | refine hK.1 ?_ | refine hK.2 ?_); clear hK K)
   | ((with_reducible refine condS hK (fun hg => ?_) fun hg => ?_) <;> clear hK K <;> (try simp only [hgW] at hg) <;> try (exfalso; omega))
   | ((first | ((with_reducible first | refine Rk.go k38_VsRDec2 (by constructor) ?_); intro K hK) | with_reducible refine Rr.go [] (by constructor) ?_ | (with_reducible refine guardP_split (fun hg => ?_) fun hg => ?_) <;> (try simp only [hg]) <;> (try simp only [hgW] at hg)) <;> simp -implicitDefEqProofs only [isHid, hn, go_sem, simprocAttr] <;> try (simp (disch := omega) only [wrW]; try simp -implicitDefEqProofs only [isHid, hn, go_sem, simprocAttr]))
   | with_reducible refine And.intro (by first | omega | (simp only [hgW]; omega)) ?_
   | (exfalso; omega)
  refine AWP.adopt 4 (0, 999) 0 1 (by rfl) ?_
  refine AWP.loopX [4, 5, 6, 15, 55] [] (fun x : Nat × Nat × List UInt8 × List UInt8 × List UInt8 => St.mk (lk [(4, .sl (some ((0, 999), 0)) x.2.2.1.isEmpty 1 (x.2.2.1.map u8)), (5, .int .u32 (x.1 : Int)), (6, .int .i64 (x.2.1 : Int)), (15, .itp ib none), (55, .itp ib (some (x.2.2.2.1, x.2.2.2.2)))]) (lkB []) (hasS []) (hasS []) (hasN []) (lkR []))
    (fun x => x.1 < 4294967296 ∧ x.2.1 ≤ 7 ∧ x.2.2.1.length + x.2.2.2.2.length ≤ s.length ∧ dcG x.1 x.2.1 x.2.2.1 x.2.2.2.2 = dcG 0 0 [] s) (fun x => x.2.2.2.2.length) (0, 0, [], [], s) ?_ ⟨by simp, by simp, by simp, rfl⟩ ?_
  · simp -implicitDefEqProofs only [hn, go_sem, simprocAttr]
    try rfl
  rintro ⟨a, n, out, p, r⟩ ⟨h1, h2, h3, h4⟩
  try dsimp only at h1 h2 h3 h4 ⊢
  cases r with
  | nil =>
    rw [dcG] at h4
    rw [← h4] at hR
    simp only at hR
    by_cases h6 : 6 ≤ n
    · rw [if_pos (.inl h6)] at hR
      subst hR
      repeat' first
       | (refine fun (ib : Nat) => ?_)
       | with_reducible refine Rl.go (by constructor <;> decide) ?_
       | ((with_reducible first | refine hK _ ?_ | refine hK.1 ?_ | refine hK.2 ?_); clear hK K)
       | ((with_reducible refine condS hK (fun hg => ?_) fun hg => ?_) <;> clear hK K <;> (try simp only [hgW] at hg) <;> try (exfalso; omega))
       | ((first | ((with_reducible first | refine Rk.go k38_VsRDec2 (by constructor) ?_); intro K hK) | with_reducible refine Rr.go [] (by constructor) ?_ | (with_reducible refine guardP_split (fun hg => ?_) fun hg => ?_) <;> (try simp only [hg]) <;> (try simp only [hgW] at hg)) <;> simp -implicitDefEqProofs only [hn, go_sem, simprocAttr] <;> try (simp (disch := omega) only [wrW]; try simp -implicitDefEqProofs only [hn, go_sem, simprocAttr]))
       | with_reducible refine And.intro (by first | omega | (simp only [hgW]; omega)) ?_
       | (exfalso; omega)
    have hp : (1 : Int) * 2 ^ min n 32 = ((2 ^ n : Nat) : Int) := by rw [Nat.min_eq_left (by omega), Int.one_mul, Int.natCast_pow]; rfl
    have hp2 : 2 ^ n ≤ 2 ^ 6 := Nat.pow_le_pow_right (by decide) (by omega)
    have hp3 : 0 < 2 ^ n := Nat.two_pow_pos n
    have hand := and_u32 a n h1 (by omega)
    obtain ⟨q, hq⟩ : ∃ q, 2 ^ n = q := ⟨_, rfl⟩
    rw [hq] at hp hp2 hp3 hand hR
    have e1 : (q : Int) - 1 = ((q - 1 : Nat) : Int) := by omega
    by_cases hz : a % q = 0
    · rw [if_neg (by omega)] at hR
      subst hR
      repeat' first
       | (refine fun (ib : Nat) => ?_)
       | with_reducible refine Rl.go (by constructor <;> decide) ?_
       | ((with_reducible first | refine hK _ ?_ | refine hK.1 ?_ | refine hK.2 ?_); clear hK K)
       | ((with_reducible refine condS hK (fun hg => ?_) fun hg => ?_) <;> clear hK K <;> (try simp only [hgW] at hg) <;> try (exfalso; omega))
       | ((first | ((with_reducible first | refine Rk.go k38_VsRDec2 (by constructor) ?_); intro K hK) | with_reducible refine Rr.go [] (by constructor) ?_ | (with_reducible refine guardP_split (fun hg => ?_) fun hg => ?_) <;> (try simp only [hg]) <;> (try simp only [hgW] at hg)) <;> simp -implicitDefEqProofs only [hp, e1, hand, hn, go_sem, simprocAttr] <;> try (simp (disch := omega) only [wrW]; try simp -implicitDefEqProofs only [hp, e1, hand, hn, go_sem, simprocAttr]))
       | with_reducible refine And.intro (by first | omega | (simp only [hgW]; omega)) ?_
       | (exfalso; omega)
    · rw [if_pos (by omega)] at hR
      subst hR
      repeat' first
       | (refine fun (ib : Nat) => ?_)
       | with_reducible refine Rl.go (by constructor <;> decide) ?_
       | ((with_reducible first | refine hK _ ?_ | refine hK.1 ?_ | refine hK.2 ?_); clear hK K)
       | ((with_reducible refine condS hK (fun hg => ?_) fun hg => ?_) <;> clear hK K <;> (try simp only [hgW] at hg) <;> try (exfalso; omega))
       | ((first | ((with_reducible first | refine Rk.go k38_VsRDec2 (by constructor) ?_); intro K hK) | with_reducible refine Rr.go [] (by constructor) ?_ | (with_reducible refine guardP_split (fun hg => ?_) fun hg => ?_) <;> (try simp only [hg]) <;> (try simp only [hgW] at hg)) <;> simp -implicitDefEqProofs only [hp, e1, hand, hn, go_sem, simprocAttr] <;> try (simp (disch := omega) only [wrW]; try simp -implicitDefEqProofs only [hp, e1, hand, hn, go_sem, simprocAttr]))
       | with_reducible refine And.intro (by first | omega | (simp only [hgW]; omega)) ?_
       | (exfalso; omega)
  | cons c t =>
    rw [dcG] at h4
    have hw := Go.Lib.decodeL_width (c :: t)
    have hle := Go.Lib.decodeL_le (c :: t) (by simp)
    have hru := Go.Lib.decodeL_rune (c :: t)
    obtain ⟨q, hq⟩ : ∃ q, Go.Lib.decodeL (c :: t) = q := ⟨_, rfl⟩
    obtain ⟨q1, q2⟩ := q
    rw [hq] at h4 hw hle hru
    simp only at h4 hw hle hru
    have hdl : ((c :: t).drop q2).length + q2 = (c :: t).length := by rw [List.length_drop]; omega
    cases hv : valB q1 with
    | none =>
      rw [hv] at h4
      simp only at h4
      rw [← h4] at hR
      simp only at hR
      subst hR
      have c50 := f50_none q1 hv
      repeat' first
       | (refine fun (ib : Nat) => ?_)
       | with_reducible refine Rl.go (by constructor <;> decide) ?_
       | ((with_reducible first | refine hK _ ?_ | refine hK.1 ?_ | refine hK.2 ?_); clear hK K)
       | ((with_reducible refine condS hK (fun hg => ?_) fun hg => ?_) <;> clear hK K <;> (try simp only [hgW] at hg) <;> try (exfalso; omega))
       | ((first | ((with_reducible first | refine Rk.go k38_VsRDec2 (by constructor) ?_); intro K hK) | with_reducible refine Rr.go [] (by constructor) ?_ | (with_reducible refine guardP_split (fun hg => ?_) fun hg => ?_) <;> (try simp only [hg]) <;> (try simp only [hgW] at hg) | refine Rc.go c50 (by constructor) ?_) <;> simp -implicitDefEqProofs only [hq, hn, go_sem, simprocAttr] <;> try (simp (disch := omega) only [wrW]; try simp -implicitDefEqProofs only [hq, hn, go_sem, simprocAttr]))
       | with_reducible refine And.intro (by first | omega | (simp only [hgW]; omega)) ?_
       | (exfalso; omega)
    | some v =>
      rw [hv] at h4
      simp only at h4
      have c50 := f50_some q1 v hv
      have hvl := valB_lt hv
      obtain ⟨A, hA, hA2⟩ : ∃ A, a * 64 % 4294967296 = A * 64 ∧ A * 64 < 4294967296 := ⟨a * 64 % 4294967296 / 64, by omega, by omega⟩
      have hw1 : IntKind.u32.wrap ((a : Int) * 64) = ((A * 64 : Nat) : Int) := by
        rw [show ((a : Int) * 64) = ((a * 64 : Nat) : Int) by simp, wrap_u32, hA]
      have hw2 := or_u32 A v hA2 hvl
      have hac : accB a v = A * 64 + v := by unfold accB; rw [hA]
      rw [hac] at h4
      obtain ⟨B, hB⟩ : ∃ B, A * 64 + v = B := ⟨_, rfl⟩
      obtain ⟨A64, hA64⟩ : ∃ x, A * 64 = x := ⟨_, rfl⟩
      rw [hB] at h4 hw2
      rw [hA64] at hw1 hw2
      have hBl : B < 4294967296 := by omega
      have e6 : (n : Int) + 6 = ((n + 6 : Nat) : Int) := by omega
      by_cases h8 : 8 ≤ n + 6
      · rw [if_pos h8] at h4
        have e8 : ((n + 6 : Nat) : Int) - 8 = ((n - 2 : Nat) : Int) := by omega
        have hsh : IntKind.u8.wrap ((B : Int).fdiv (2 ^ min (n - 2) 32)) = ((UInt8.ofNat (B / 2 ^ (n - 2))).toNat : Int) := by
          have e2 : (2 : Int) ^ (n - 2) = ((2 ^ (n - 2) : Nat) : Int) := by rw [Int.natCast_pow]; rfl
          rw [Nat.min_eq_left (by omega), e2, Int.fdiv_eq_ediv_of_nonneg _ (Int.natCast_nonneg _), ← Int.natCast_ediv, wrap_u8]
        obtain ⟨o, ho⟩ : ∃ o, UInt8.ofNat (B / 2 ^ (n - 2)) = o := ⟨_, rfl⟩
        rw [ho] at h4 hsh
        have hie : (out ++ [o]).isEmpty = false := by simp
        repeat' first
         | (refine fun (ib : Nat) => ?_)
         | with_reducible refine Rl.go (by constructor <;> decide) ?_
         | ((with_reducible first | refine hK _ ?_ | refine hK.1 ?_ | refine hK.2 ?_); clear hK K)
         | ((with_reducible refine condS hK (fun hg => ?_) fun hg => ?_) <;> clear hK K <;> (try simp only [hgW] at hg) <;> try (exfalso; omega))
         | ((first | ((with_reducible first | refine Rk.go k38_VsRDec2 (by constructor) ?_); intro K hK) | with_reducible refine Rr.go [] (by constructor) ?_ | (with_reducible refine guardP_split (fun hg => ?_) fun hg => ?_) <;> (try simp only [hg]) <;> (try simp only [hgW] at hg) | refine Rc.go c50 (by constructor) ?_) <;> simp -implicitDefEqProofs only [hq, hw1, hw2, e6, e8, hsh, hn, go_sem, simprocAttr] <;> try (simp (disch := omega) only [wrW]; try simp -implicitDefEqProofs only [hq, hw1, hw2, e6, e8, hsh, hn, go_sem, simprocAttr]))
         | with_reducible refine And.intro (by first | omega | (simp only [hgW]; omega)) ?_
         | (exfalso; omega)
        refine ⟨(B, n - 2, out ++ [o], p ++ (c :: t).take q2, (c :: t).drop q2), ?_, ⟨hBl, by show n - 2 ≤ 7; omega, ?_, h4⟩, by simp only [List.length_cons] at hdl ⊢; omega⟩
        · simp -implicitDefEqProofs only [u8, List.map_append, List.map_cons, List.map_nil, hie, hn, go_sem, simprocAttr]
          try rfl
        · simp only [List.length_append, List.length_cons, List.length_nil] at hdl h3 ⊢; omega
      · rw [if_neg h8] at h4
        repeat' first
         | (refine fun (ib : Nat) => ?_)
         | with_reducible refine Rl.go (by constructor <;> decide) ?_
         | ((with_reducible first | refine hK _ ?_ | refine hK.1 ?_ | refine hK.2 ?_); clear hK K)
         | ((with_reducible refine condS hK (fun hg => ?_) fun hg => ?_) <;> clear hK K <;> (try simp only [hgW] at hg) <;> try (exfalso; omega))
         | ((first | ((with_reducible first | refine Rk.go k38_VsRDec2 (by constructor) ?_); intro K hK) | with_reducible refine Rr.go [] (by constructor) ?_ | (with_reducible refine guardP_split (fun hg => ?_) fun hg => ?_) <;> (try simp only [hg]) <;> (try simp only [hgW] at hg) | refine Rc.go c50 (by constructor) ?_) <;> simp -implicitDefEqProofs only [hq, hw1, hw2, e6, hn, go_sem, simprocAttr] <;> try (simp (disch := omega) only [wrW]; try simp -implicitDefEqProofs only [hq, hw1, hw2, e6, hn, go_sem, simprocAttr]))
         | with_reducible refine And.intro (by first | omega | (simp only [hgW]; omega)) ?_
         | (exfalso; omega)
        refine ⟨(B, n + 6, out, p ++ (c :: t).take q2, (c :: t).drop q2), ?_, ⟨hBl, by show n + 6 ≤ 7; omega, ?_, h4⟩, by simp only [List.length_cons] at hdl ⊢; omega⟩
        · simp -implicitDefEqProofs only [hn, go_sem, simprocAttr]
          try rfl
        · simp only [List.length_cons] at hdl h3 ⊢; omega
end Go.Proofs.YtfemncfhiihckaaDoor
