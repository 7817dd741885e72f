/- What the writer's head comes to. -/
import Derived.Test.YtijcpdgfbboamaaDoorVsCEncT
import Derived.Test.YtijcpdgfbboamaaDoorVsCRef3
open Go Go.VS
namespace Go.Proofs.YtijcpdgfbboamaaDoor
set_option linter.unusedVariables false
set_option linter.unusedSimpArgs false
set_option maxRecDepth 20000
set_option maxHeartbeats 4000000
theorem or5 (k m : Nat) (hk : k < 8) (hm : m < 32) : bitop .or .u8 ((k : Int) * 32) (m : Int) = ((32 * k + m : Nat) : Int) := by
  unfold bitop
  simp only
  have e : ((k : Int) * 32) = ((k * 32 : Nat) : Int) := by simp
  rw [e, ofInt_nat, ofInt_nat]
  simp only [BitVec.toNat_or, BitVec.toNat_ofNat]
  have hb : IntKind.u8.bits = 8 := rfl
  rw [hb, Nat.mod_eq_of_lt (by omega), Nat.mod_eq_of_lt (by omega)]
  have := or_shift k m 5 (by omega)
  rw [show (2 : Nat) ^ 5 = 32 from rfl] at this
  rw [this]
  rw [Go.IntWalk.u8_in _ (by omega)]
  omega
def k47_VsCEncH : List Nat := [0,1,2,6,7,10,13,16,19,59]
def a47_14_VsCEncH : List Nat := [0,0,2,6,14,0,0,64,224,480,992,2046,4095,8191,16383]
def o47_14_VsCEncH : List Nat := [5,6,7,8,9,10,1,2,3,4,11,0,12,13,14]
attribute [go_sem] k47_VsCEncH a47_14_VsCEncH o47_14_VsCEncH
theorem f47_low (k n : Nat) (hk : k < 8) (h24 : n < 24) (s : WS) (hb : s.b.length ≤ 100000000) :
    CallsB Tryd.prog 47 [.ptr 1000000 0, .int .u8 (k : Int), .int .u64 (n : Int)] [s.cells (4, 0)] (.tup []) [(s.put (hdW k n)).cells (3, 0)] := by
  obtain ⟨b, items⟩ := s
  simp only at hb
  have h1 := or5 k n hk (by omega)
  have e : (WS.put ⟨b, items⟩ (hdW k n)).cells (3, 0) = [.sl (some ((3, 0), 0)) false 1 (b.map u8 ++ [.int .u8 ((32 * k + n : Nat) : Int)]), .int .i64 (items : Int)] := by
    unfold WS.put WS.cells hdW
    rw [if_pos h24]
    simp [u8, toN8 (show 32 * k + n < 256 by omega)]
    omega
  rw [e]
  refine CallsB.introF Tryd.func47 rfl (by show 3 ≤ 76; decide) ?_
  rintro X hX
  have hn : X.n = 76 := hX
  unfold Tryd.f47
  dsimp only
  rw [entryB31]
  repeat' first
   | with_reducible refine Rl.go (by constructor <;> decide) ?_
   | ((with_reducible first | refine hK _ ?_ | refine hK.1 ?_ | refine hK.2 ?_); clear hK K)
   | ((with_reducible refine condS hK (fun hg => ?_) fun hg => ?_) <;> clear hK K <;> (try simp only [hgW] at hg) <;> try (exfalso; omega))
   | ((first | ((with_reducible first | refine Rk.go k47_VsCEncH (by constructor) ?_ | refine Rd.go 14 k47_VsCEncH a47_14_VsCEncH o47_14_VsCEncH mixed (by constructor) (by kernel_rfl) (by kernel_rfl) ?_); intro K hK) | with_reducible refine Rr.go [] (by constructor) ?_ | (with_reducible refine guardP_split (fun hg => ?_) fun hg => ?_) <;> (try simp only [hg]) <;> (try simp only [hgW] at hg)) <;> simp -implicitDefEqProofs only [WS.cells, h1, Int.cast_ofNat_Int, hn, go_sem, simprocAttr] <;> try (simp (disch := omega) only [wrW]; try simp -implicitDefEqProofs only [WS.cells, h1, Int.cast_ofNat_Int, hn, go_sem, simprocAttr]))
   | with_reducible refine And.intro (by first | omega | (simp only [hgW]; omega)) ?_
   | (exfalso; omega)
theorem f47_go (k n z : Nat) (hk : k < 8) (hn0 : 24 ≤ n) (h64 : n < 18446744073709551616) (hz : z < 4) (hzn : sizeN n = z) (s : WS) (hb : s.b.length ≤ 100000000) :
    CallsB Tryd.prog 47 [.ptr 1000000 0, .int .u8 (k : Int), .int .u64 (n : Int)] [s.cells (4, 0)] (.tup []) [(s.put (hdW k n)).cells (3, 0)] := by
  obtain ⟨b, items⟩ := s
  simp only at hb
  have hs : (n < 256 ↔ z = 0) ∧ (n < 65536 ↔ z ≤ 1) ∧ (n < 4294967296 ↔ z ≤ 2) := by
    unfold sizeN at hzn
    (repeat' split at hzn) <;> omega
  obtain ⟨W, hW⟩ : ∃ W, 2 ^ z = W := ⟨_, rfl⟩
  have hzw : (z = 0 ∧ W = 1) ∨ (z = 1 ∧ W = 2) ∨ (z = 2 ∧ W = 4) ∨ (z = 3 ∧ W = 8) := by
    rcases (show z = 0 ∨ z = 1 ∨ z = 2 ∨ z = 3 by omega) with rfl | rfl | rfl | rfl <;> simp at hW <;> omega
  obtain ⟨c, hc⟩ : ∃ c, 32 * k + (24 + z) = c := ⟨_, rfl⟩
  have e : (WS.put ⟨b, items⟩ (hdW k n)).cells (3, 0) = [.sl (some ((3, 0), 0)) false 1 (b.map u8 ++ .int .u8 (c : Int) :: (nbs n W).map u8), .int .i64 (items : Int)] := by
    unfold WS.put WS.cells hdW
    rw [if_neg (by omega), hzn, hW]
    simp [u8, toN8 (show 32 * k + 24 + z < 256 by omega)]
    omega
  rw [e]
  have o : (z = 0 → bitop .or .u8 ((k : Int) * 32) 24 = (c : Int)) ∧ (z = 1 → bitop .or .u8 ((k : Int) * 32) 25 = (c : Int)) ∧ (z = 2 → bitop .or .u8 ((k : Int) * 32) 26 = (c : Int)) ∧ (z = 3 → bitop .or .u8 ((k : Int) * 32) 27 = (c : Int)) := by
    have g := fun m h => or5 k m hk h
    refine ⟨fun hz => ?_, fun hz => ?_, fun hz => ?_, fun hz => ?_⟩
    · rw [← hc, hz]; exact g 24 (by decide)
    · rw [← hc, hz]; exact g 25 (by decide)
    · rw [← hc, hz]; exact g 26 (by decide)
    · rw [← hc, hz]; exact g 27 (by decide)
  clear e hc
  refine CallsB.introF Tryd.func47 rfl (by show 3 ≤ 76; decide) ?_
  rintro X hX
  have hn : X.n = 76 := hX
  unfold Tryd.f47
  dsimp only
  rw [entryB31]
  repeat' first
   | with_reducible refine Rl.go (by constructor <;> decide) ?_
   | ((with_reducible first | refine hK _ ?_ | refine hK.1 ?_ | refine hK.2 ?_); clear hK K)
   | ((with_reducible refine condS hK (fun hg => ?_) fun hg => ?_) <;> clear hK K <;> (try simp only [hgW] at hg) <;> try (exfalso; omega))
   | ((first | ((with_reducible first | refine Rk.go k47_VsCEncH (by constructor) ?_ | refine Rd.go 14 k47_VsCEncH a47_14_VsCEncH o47_14_VsCEncH mixed (by constructor) (by kernel_rfl) (by kernel_rfl) ?_); intro K hK) | with_reducible refine Rr.go [] (by constructor) ?_ | (with_reducible refine guardP_split (fun hg => ?_) fun hg => ?_) <;> (try simp only [hg]) <;> (try simp only [hgW] at hg)) <;> simp -implicitDefEqProofs only [WS.cells, Int.cast_ofNat_Int, hn, go_sem, simprocAttr] <;> try (simp (disch := omega) only [wrW]; try simp -implicitDefEqProofs only [WS.cells, Int.cast_ofNat_Int, hn, go_sem, simprocAttr]))
   | with_reducible refine And.intro (by first | omega | (simp only [hgW]; omega)) ?_
   | (exfalso; omega)
  all_goals
    refine AWP.loopX [0, 2, 7] [] (fun x : Nat × List UInt8 => St.mk (lk [(0, .ptr 1000000 0), (2, .int .u64 (n : Int)), (7, .int .i64 ((x.1 : Int) - 1))]) (lkB [(1000000, [.sl (some ((4, 0), 0)) false 1 (b.map u8 ++ .int .u8 (c : Int) :: x.2.map u8), .int .i64 (items : Int)])]) (hasS []) (hasS []) (hasN []) (lkR []))
      (fun x => x.1 ≤ W ∧ x.2 ++ nbs n x.1 = nbs n W) (fun x => x.1) (W, []) ?_ ⟨Nat.le_refl _, rfl⟩ ?_
    · have q0 : z = 0 → (W : Int) - 1 = 0 := by omega
      have q1 : z = 1 → (W : Int) - 1 = 1 := by omega
      have q2 : z = 2 → (W : Int) - 1 = 3 := by omega
      have q3 : z = 3 → (W : Int) - 1 = 7 := by omega
      first
        | (have hz' : z = 0 := by omega
           simp -implicitDefEqProofs only [o.1 hz', q0 hz', Int.cast_ofNat_Int, hn, go_sem, simprocAttr]
           try rfl)
        | (have hz' : z = 1 := by omega
           simp -implicitDefEqProofs only [o.2.1 hz', q1 hz', Int.cast_ofNat_Int, hn, go_sem, simprocAttr]
           try rfl)
        | (have hz' : z = 2 := by omega
           simp -implicitDefEqProofs only [o.2.2.1 hz', q2 hz', Int.cast_ofNat_Int, hn, go_sem, simprocAttr]
           try rfl)
        | (have hz' : z = 3 := by omega
           simp -implicitDefEqProofs only [o.2.2.2 hz', q3 hz', Int.cast_ofNat_Int, hn, go_sem, simprocAttr]
           try rfl)
    rintro ⟨i, out⟩ ⟨hi, hd⟩
    simp only at hi hd
    have hol : out.length + i = W := by
      have := congrArg List.length hd
      rw [List.length_append, nbs_len, nbs_len] at this
      exact this
    cases i with
    | zero =>
      simp only [nbs, List.append_nil] at hd
      subst hd
      repeat' first
       | with_reducible refine Rl.go (by constructor <;> decide) ?_
       | ((with_reducible first | refine hK _ ?_ | refine hK.1 ?_ | refine hK.2 ?_); clear hK K)
       | ((with_reducible refine condS hK (fun hg => ?_) fun hg => ?_) <;> clear hK K <;> (try simp only [hgW] at hg) <;> try (exfalso; omega))
       | ((first | ((with_reducible first | refine Rk.go k47_VsCEncH (by constructor) ?_ | refine Rd.go 14 k47_VsCEncH a47_14_VsCEncH o47_14_VsCEncH mixed (by constructor) (by kernel_rfl) (by kernel_rfl) ?_); intro K hK) | with_reducible refine Rr.go [] (by constructor) ?_ | (with_reducible refine guardP_split (fun hg => ?_) fun hg => ?_) <;> (try simp only [hg]) <;> (try simp only [hgW] at hg)) <;> simp -implicitDefEqProofs only [WS.cells, Int.cast_ofNat_Int, hn, go_sem, simprocAttr] <;> try (simp (disch := omega) only [wrW]; try simp -implicitDefEqProofs only [WS.cells, Int.cast_ofNat_Int, hn, go_sem, simprocAttr]))
       | with_reducible refine And.intro (by first | omega | (simp only [hgW]; omega)) ?_
       | (exfalso; omega)
    | succ i =>
      have hb8 := shr8 n i (by omega)
      have q : (8 * (((i + 1 : Nat) : Int) - 1)).toNat = 8 * i := by omega
      repeat' first
       | with_reducible refine Rl.go (by constructor <;> decide) ?_
       | ((with_reducible first | refine hK _ ?_ | refine hK.1 ?_ | refine hK.2 ?_); clear hK K)
       | ((with_reducible refine condS hK (fun hg => ?_) fun hg => ?_) <;> clear hK K <;> (try simp only [hgW] at hg) <;> try (exfalso; omega))
       | ((first | ((with_reducible first | refine Rk.go k47_VsCEncH (by constructor) ?_ | refine Rd.go 14 k47_VsCEncH a47_14_VsCEncH o47_14_VsCEncH mixed (by constructor) (by kernel_rfl) (by kernel_rfl) ?_); intro K hK) | with_reducible refine Rr.go [] (by constructor) ?_ | (with_reducible refine guardP_split (fun hg => ?_) fun hg => ?_) <;> (try simp only [hg]) <;> (try simp only [hgW] at hg)) <;> simp -implicitDefEqProofs only [u8, q, hb8, Int.cast_ofNat_Int, hn, go_sem, simprocAttr] <;> try (simp (disch := omega) only [wrW]; try simp -implicitDefEqProofs only [u8, q, hb8, Int.cast_ofNat_Int, hn, go_sem, simprocAttr]))
       | with_reducible refine And.intro (by first | omega | (simp only [hgW]; omega)) ?_
       | (exfalso; omega)
      refine ⟨(i, out ++ [UInt8.ofNat (n / 256 ^ i)]), ?_, ⟨by simp only; omega, by simp only; rw [List.append_assoc]; exact hd⟩, by simp only; omega⟩
      have e1 : (((i + 1 : Nat) : Int) - 1 - 1) = (i : Int) - 1 := by omega
      have e2 : b.map u8 ++ AV.int .u8 (c : Int) :: out.map u8 ++ [AV.int .u8 ((UInt8.ofNat (n / 256 ^ i)).toNat : Int)] = b.map u8 ++ AV.int .u8 (c : Int) :: (out ++ [UInt8.ofNat (n / 256 ^ i)]).map u8 := by
        rw [List.map_append, List.append_assoc]; rfl
      rw [e1, e2]
      simp -implicitDefEqProofs only [Int.cast_ofNat_Int, hn, go_sem, simprocAttr]
      try rfl
theorem f47_ok (k n : Nat) (hk : k < 8) (h64 : n < 18446744073709551616) (s : WS) (hb : s.b.length ≤ 100000000) :
    CallsB Tryd.prog 47 [.ptr 1000000 0, .int .u8 (k : Int), .int .u64 (n : Int)] [s.cells (4, 0)] (.tup []) [(s.put (hdW k n)).cells (3, 0)] := by
  by_cases h : n < 24
  · exact f47_low k n hk h s hb
  · have hz : sizeN n < 4 := by unfold sizeN; (repeat' split) <;> decide
    exact f47_go k n _ hk (by omega) h64 hz rfl s hb
end Go.Proofs.YtijcpdgfbboamaaDoor
open Go Go.VS
namespace Go.Proofs.YtijcpdgfbboamaaDoor
set_option linter.unusedVariables false
set_option linter.unusedSimpArgs false
set_option maxRecDepth 20000
set_option maxHeartbeats 4000000
/-- The contract of one item that is written, with so many levels within. -/
def ItWOk (it : CI → WS → Nat × WS) (d : Nat) : Prop := ∀ (x : CI) (s : WS), Fit d x → s.Ok → CallsB Tryd.prog 38 [.ptr 1000000 0, x.av, .int .i64 (d : Int)] [s.cells (4, 0)] (.int .i64 ((it x s).1 : Int)) [(it x s).2.cells (3, 0)]
def k38_VsCEncI : List Nat := [0,1,2,4,6,18,20,21,31,42,62,79]
def a38_14_VsCEncI : List Nat := [0,0,2,6,14,0,32,126,255,511,1023]
def o38_14_VsCEncI : List Nat := [1,2,3,4,5,6,7,0,8,9,10]
def a38_18_VsCEncI : List Nat := [0,0,2,6,14,0,32,96,224,480,1022,2047,4095,8191]
def o38_18_VsCEncI : List Nat := [5,6,7,8,9,1,2,3,4,10,0,11,12,13]
attribute [go_sem] k38_VsCEncI a38_14_VsCEncI o38_14_VsCEncI a38_18_VsCEncI o38_18_VsCEncI
theorem f38_many (d : Nat) (x : CI) (s : WS) (hs : s.Ok) (h : 512 < s.items + 1) : CallsB Tryd.prog 38 [.ptr 1000000 0, x.av, .int .i64 (d : Int)] [s.cells (4, 0)] (.int .i64 14) [({ s with items := s.items + 1 } : WS).cells (3, 0)] := by
  obtain ⟨b, items⟩ := s
  obtain ⟨hs1, hs2⟩ := hs
  obtain ⟨ki, ni, bni, bi, kni, kids⟩ := x
  simp only at *
  have e1 : ((items + 1 : Nat) : Int) = (items : Int) + 1 := by omega
  rw [av_mk']
  refine CallsB.introF Tryd.func38 rfl (by show 3 ≤ 86; decide) ?_
  rintro X hX
  have hn : X.n = 86 := hX
  unfold Tryd.f38
  dsimp only
  rw [entryB31]
  repeat' first
   | with_reducible refine Rl.go (by constructor <;> decide) ?_
   | ((with_reducible first | refine hK _ ?_ | refine hK.1 ?_ | refine hK.2 ?_); clear hK K)
   | ((with_reducible refine condS hK (fun hg => ?_) fun hg => ?_) <;> clear hK K <;> (try simp only [hgW] at hg) <;> try (exfalso; omega))
   | ((first | ((with_reducible first | refine Rk.go k38_VsCEncI (by constructor) ?_ | refine Rd.go 14 k38_VsCEncI a38_14_VsCEncI o38_14_VsCEncI mixed (by constructor) (by kernel_rfl) (by kernel_rfl) ?_ | refine Rd.go 18 k38_VsCEncI a38_18_VsCEncI o38_18_VsCEncI mixed (by constructor) (by kernel_rfl) (by kernel_rfl) ?_); intro K hK) | with_reducible refine Rr.go [] (by constructor) ?_ | (with_reducible refine guardP_split (fun hg => ?_) fun hg => ?_) <;> (try simp only [hg]) <;> (try simp only [hgW] at hg)) <;> simp -implicitDefEqProofs only [WS.cells, e1, Int.cast_ofNat_Int, hn, go_sem, simprocAttr] <;> try simp (disch := omega) only [wrW])
   | with_reducible refine And.intro (by first | omega | (simp only [hgW]; omega)) ?_
   | (exfalso; omega)
theorem f38_num (d : Nat) (x : CI) (s : WS) (hf : Fit d x) (hs : s.Ok) (h : s.items + 1 ≤ 512) (hk : x.k = 1 ∨ x.k = 2) :
    CallsB Tryd.prog 38 [.ptr 1000000 0, x.av, .int .i64 (d : Int)] [s.cells (4, 0)] (.int .i64 0) [(({ s with items := s.items + 1 } : WS).put (hdW (x.k - 1) x.n)).cells (3, 0)] := by
  obtain ⟨f1, f2, f3, f4, f5⟩ := hf.here
  have c47 := f47_ok (x.k - 1) x.n (by omega) f2 { s with items := s.items + 1 } (by have := hs.2; simp only; omega)
  obtain ⟨b, items⟩ := s
  obtain ⟨hs1, hs2⟩ := hs
  obtain ⟨ki, ni, bni, bi, kni, kids⟩ := x
  simp only [CI.k, CI.n] at *
  have hk1 : ((ki - 1 : Nat) : Int) = (ki : Int) - 1 := by omega
  have e1 : ((items + 1 : Nat) : Int) = (items : Int) + 1 := by omega
  generalize hp : (WS.put ⟨b, items + 1⟩ (hdW (ki - 1) ni)) = p at *
  obtain ⟨b', items'⟩ := p
  rw [av_mk']
  refine CallsB.introF Tryd.func38 rfl (by show 3 ≤ 86; decide) ?_
  rintro X hX
  have hn : X.n = 86 := hX
  unfold Tryd.f38
  dsimp only
  rw [entryB31]
  repeat' first
   | with_reducible refine Rl.go (by constructor <;> decide) ?_
   | ((with_reducible first | refine hK _ ?_ | refine hK.1 ?_ | refine hK.2 ?_); clear hK K)
   | ((with_reducible refine condS hK (fun hg => ?_) fun hg => ?_) <;> clear hK K <;> (try simp only [hgW] at hg) <;> try (exfalso; omega))
   | ((with_reducible refine callE_B3 c47 ?_); simp -implicitDefEqProofs only [eqOk_true, WS.cells, e1, hk1, Int.cast_ofNat_Int, hn, go_sem, simprocAttr]; (skip; try simp (disch := omega) only [wrW]); fail_if_success (with_reducible refine eqOk_mk ?_))
   | ((first | ((with_reducible first | refine Rk.go k38_VsCEncI (by constructor) ?_ | refine Rd.go 14 k38_VsCEncI a38_14_VsCEncI o38_14_VsCEncI mixed (by constructor) (by kernel_rfl) (by kernel_rfl) ?_ | refine Rd.go 18 k38_VsCEncI a38_18_VsCEncI o38_18_VsCEncI mixed (by constructor) (by kernel_rfl) (by kernel_rfl) ?_); intro K hK) | with_reducible refine Rr.go [] (by constructor) ?_ | (with_reducible refine guardP_split (fun hg => ?_) fun hg => ?_) <;> (try simp only [hg]) <;> (try simp only [hgW] at hg)) <;> simp -implicitDefEqProofs only [WS.cells, e1, hk1, Int.cast_ofNat_Int, hn, go_sem, simprocAttr] <;> try simp (disch := omega) only [wrW])
   | with_reducible refine And.intro (by first | omega | (simp only [hgW]; omega)) ?_
   | (exfalso; omega)
theorem f38_txt {valid : List UInt8 → Bool} (hv : ∀ (x : CI), Lim x → CallsP Tryd.prog 44 [.sl none x.bn 1 (x.b.map u8)] (.bool (valid x.b))) (d : Nat) (x : CI) (s : WS) (hf : Fit d x) (hs : s.Ok) (h : s.items + 1 ≤ 512) (hk : x.k = 3 ∨ x.k = 4) (hx : ¬ (x.k = 4 ∧ valid x.b = false)) :
    CallsB Tryd.prog 38 [.ptr 1000000 0, x.av, .int .i64 (d : Int)] [s.cells (4, 0)] (.int .i64 0) [((({ s with items := s.items + 1 } : WS).put (hdW (x.k - 1) x.b.length)).put x.b).cells (3, 0)] := by
  have c44 := hv x hf.here
  obtain ⟨f1, f2, f3, f4, f5⟩ := hf.here
  have c47 := f47_ok (x.k - 1) x.b.length (by omega) (by omega) { s with items := s.items + 1 } (by have := hs.2; simp only; omega)
  have hl1 := hdW_len (x.k - 1) x.b.length
  have hl9 := hdW_le (x.k - 1) x.b.length
  obtain ⟨b, items⟩ := s
  obtain ⟨hs1, hs2⟩ := hs
  obtain ⟨ki, ni, bni, bi, kni, kids⟩ := x
  simp only [CI.k, CI.n, CI.b, CI.bn] at *
  have hk1 : ((ki - 1 : Nat) : Int) = (ki : Int) - 1 := by omega
  have e1 : ((items + 1 : Nat) : Int) = (items : Int) + 1 := by omega
  generalize hp : hdW (ki - 1) bi.length = p at *
  have e2 : (b ++ p).isEmpty = false := by cases p <;> simp_all
  have e3 : (b ++ p ++ bi).isEmpty = false := by cases p <;> simp_all
  have e4 : (b ++ p).map u8 = b.map u8 ++ p.map u8 := List.map_append
  have e5 : (b ++ p ++ bi).map u8 = b.map u8 ++ p.map u8 ++ bi.map u8 := by rw [List.map_append, List.map_append]
  rw [av_mk']
  by_cases h4 : ki = 4
  · have hv' : valid bi = true := by
      cases e : valid bi with
      | true => rfl
      | false => exact absurd ⟨h4, e⟩ hx
    rw [hv'] at c44
    refine CallsB.introF Tryd.func38 rfl (by show 3 ≤ 86; decide) ?_
    rintro X hX
    have hn : X.n = 86 := hX
    unfold Tryd.f38
    dsimp only
    rw [entryB31]
    repeat' first
     | with_reducible refine Rl.go (by constructor <;> decide) ?_
     | ((with_reducible first | refine hK _ ?_ | refine hK.1 ?_ | refine hK.2 ?_); clear hK K)
     | ((with_reducible refine condS hK (fun hg => ?_) fun hg => ?_) <;> clear hK K <;> (try simp only [hgW] at hg) <;> try (exfalso; omega))
     | ((with_reducible refine callE_B3 c47 ?_); simp -implicitDefEqProofs only [eqOk_true, WS.cells, WS.put, e1, hk1, e2, e3, e4, e5, Int.cast_ofNat_Int, hn, go_sem, simprocAttr]; (skip; try simp (disch := omega) only [wrW]); fail_if_success (with_reducible refine eqOk_mk ?_))
     | ((first | ((with_reducible first | refine Rk.go k38_VsCEncI (by constructor) ?_ | refine Rd.go 14 k38_VsCEncI a38_14_VsCEncI o38_14_VsCEncI mixed (by constructor) (by kernel_rfl) (by kernel_rfl) ?_ | refine Rd.go 18 k38_VsCEncI a38_18_VsCEncI o38_18_VsCEncI mixed (by constructor) (by kernel_rfl) (by kernel_rfl) ?_); intro K hK) | with_reducible refine Rr.go [] (by constructor) ?_ | (with_reducible refine guardP_split (fun hg => ?_) fun hg => ?_) <;> (try simp only [hg]) <;> (try simp only [hgW] at hg) | refine Rc.go c44 (by constructor) ?_) <;> simp -implicitDefEqProofs only [WS.cells, WS.put, e1, hk1, e2, e3, e4, e5, Int.cast_ofNat_Int, hn, go_sem, simprocAttr] <;> try simp (disch := omega) only [wrW])
     | with_reducible refine And.intro (by first | omega | (simp only [hgW]; omega)) ?_
     | (exfalso; omega)
  · refine CallsB.introF Tryd.func38 rfl (by show 3 ≤ 86; decide) ?_
    rintro X hX
    have hn : X.n = 86 := hX
    unfold Tryd.f38
    dsimp only
    rw [entryB31]
    repeat' first
     | with_reducible refine Rl.go (by constructor <;> decide) ?_
     | ((with_reducible first | refine hK _ ?_ | refine hK.1 ?_ | refine hK.2 ?_); clear hK K)
     | ((with_reducible refine condS hK (fun hg => ?_) fun hg => ?_) <;> clear hK K <;> (try simp only [hgW] at hg) <;> try (exfalso; omega))
     | ((with_reducible refine callE_B3 c47 ?_); simp -implicitDefEqProofs only [eqOk_true, WS.cells, WS.put, e1, hk1, e2, e3, e4, e5, Int.cast_ofNat_Int, hn, go_sem, simprocAttr]; (skip; try simp (disch := omega) only [wrW]); fail_if_success (with_reducible refine eqOk_mk ?_))
     | ((first | ((with_reducible first | refine Rk.go k38_VsCEncI (by constructor) ?_ | refine Rd.go 14 k38_VsCEncI a38_14_VsCEncI o38_14_VsCEncI mixed (by constructor) (by kernel_rfl) (by kernel_rfl) ?_ | refine Rd.go 18 k38_VsCEncI a38_18_VsCEncI o38_18_VsCEncI mixed (by constructor) (by kernel_rfl) (by kernel_rfl) ?_); intro K hK) | with_reducible refine Rr.go [] (by constructor) ?_ | (with_reducible refine guardP_split (fun hg => ?_) fun hg => ?_) <;> (try simp only [hg]) <;> (try simp only [hgW] at hg) | refine Rc.go c44 (by constructor) ?_) <;> simp -implicitDefEqProofs only [WS.cells, WS.put, e1, hk1, e2, e3, e4, e5, Int.cast_ofNat_Int, hn, go_sem, simprocAttr] <;> try simp (disch := omega) only [wrW])
     | with_reducible refine And.intro (by first | omega | (simp only [hgW]; omega)) ?_
     | (exfalso; omega)
theorem f38_bad {valid : List UInt8 → Bool} (hv : ∀ (x : CI), Lim x → CallsP Tryd.prog 44 [.sl none x.bn 1 (x.b.map u8)] (.bool (valid x.b))) (d : Nat) (x : CI) (s : WS) (hf : Fit d x) (hs : s.Ok) (h : s.items + 1 ≤ 512) (hk : x.k = 4) (hx : valid x.b = false) :
    CallsB Tryd.prog 38 [.ptr 1000000 0, x.av, .int .i64 (d : Int)] [s.cells (4, 0)] (.int .i64 23) [({ s with items := s.items + 1 } : WS).cells (3, 0)] := by
  have c44 := hv x hf.here
  obtain ⟨b, items⟩ := s
  obtain ⟨hs1, hs2⟩ := hs
  obtain ⟨ki, ni, bni, bi, kni, kids⟩ := x
  simp only [CI.k, CI.n, CI.b, CI.bn] at *
  rw [hx] at c44
  have e1 : ((items + 1 : Nat) : Int) = (items : Int) + 1 := by omega
  rw [av_mk']
  refine CallsB.introF Tryd.func38 rfl (by show 3 ≤ 86; decide) ?_
  rintro X hX
  have hn : X.n = 86 := hX
  unfold Tryd.f38
  dsimp only
  rw [entryB31]
  repeat' first
   | with_reducible refine Rl.go (by constructor <;> decide) ?_
   | ((with_reducible first | refine hK _ ?_ | refine hK.1 ?_ | refine hK.2 ?_); clear hK K)
   | ((with_reducible refine condS hK (fun hg => ?_) fun hg => ?_) <;> clear hK K <;> (try simp only [hgW] at hg) <;> try (exfalso; omega))
   | ((first | ((with_reducible first | refine Rk.go k38_VsCEncI (by constructor) ?_ | refine Rd.go 14 k38_VsCEncI a38_14_VsCEncI o38_14_VsCEncI mixed (by constructor) (by kernel_rfl) (by kernel_rfl) ?_ | refine Rd.go 18 k38_VsCEncI a38_18_VsCEncI o38_18_VsCEncI mixed (by constructor) (by kernel_rfl) (by kernel_rfl) ?_); intro K hK) | with_reducible refine Rr.go [] (by constructor) ?_ | (with_reducible refine guardP_split (fun hg => ?_) fun hg => ?_) <;> (try simp only [hg]) <;> (try simp only [hgW] at hg) | refine Rc.go c44 (by constructor) ?_) <;> simp -implicitDefEqProofs only [WS.cells, e1, Int.cast_ofNat_Int, hn, go_sem, simprocAttr] <;> try simp (disch := omega) only [wrW])
   | with_reducible refine And.intro (by first | omega | (simp only [hgW]; omega)) ?_
   | (exfalso; omega)
theorem f38_one (d : Nat) (x : CI) (s : WS) (hf : Fit d x) (hs : s.Ok) (h : s.items + 1 ≤ 512) (hk : x.k = 7 ∨ x.k = 8 ∨ x.k = 9) :
    CallsB Tryd.prog 38 [.ptr 1000000 0, x.av, .int .i64 (d : Int)] [s.cells (4, 0)] (.int .i64 0) [(({ s with items := s.items + 1 } : WS).put [UInt8.ofNat (244 + (x.k - 7))]).cells (3, 0)] := by
  obtain ⟨b, items⟩ := s
  obtain ⟨hs1, hs2⟩ := hs
  obtain ⟨ki, ni, bni, bi, kni, kids⟩ := x
  simp only [CI.k] at *
  have e1 : ((items + 1 : Nat) : Int) = (items : Int) + 1 := by omega
  obtain ⟨c, hc⟩ : ∃ c : UInt8, UInt8.ofNat (244 + (ki - 7)) = c := ⟨_, rfl⟩
  have hc' : 244 + ((ki : Int) - 7) = (c.toNat : Int) := by rw [← hc, toN8 (by omega)]; omega
  rw [hc]
  have e3 : (b ++ [c]).isEmpty = false := by simp
  have e5 : (b ++ [c]).map u8 = b.map u8 ++ [.int .u8 (c.toNat : Int)] := by rw [List.map_append]; rfl
  rw [av_mk']
  refine CallsB.introF Tryd.func38 rfl (by show 3 ≤ 86; decide) ?_
  rintro X hX
  have hn : X.n = 86 := hX
  unfold Tryd.f38
  dsimp only
  rw [entryB31]
  repeat' first
   | with_reducible refine Rl.go (by constructor <;> decide) ?_
   | ((with_reducible first | refine hK _ ?_ | refine hK.1 ?_ | refine hK.2 ?_); clear hK K)
   | ((with_reducible refine condS hK (fun hg => ?_) fun hg => ?_) <;> clear hK K <;> (try simp only [hgW] at hg) <;> try (exfalso; omega))
   | ((first | ((with_reducible first | refine Rk.go k38_VsCEncI (by constructor) ?_ | refine Rd.go 14 k38_VsCEncI a38_14_VsCEncI o38_14_VsCEncI mixed (by constructor) (by kernel_rfl) (by kernel_rfl) ?_ | refine Rd.go 18 k38_VsCEncI a38_18_VsCEncI o38_18_VsCEncI mixed (by constructor) (by kernel_rfl) (by kernel_rfl) ?_); intro K hK) | with_reducible refine Rr.go [] (by constructor) ?_ | (with_reducible refine guardP_split (fun hg => ?_) fun hg => ?_) <;> (try simp only [hg]) <;> (try simp only [hgW] at hg)) <;> simp -implicitDefEqProofs only [WS.cells, WS.put, e1, hc', e3, e5, Int.cast_ofNat_Int, hn, go_sem, simprocAttr] <;> try simp (disch := omega) only [wrW])
   | with_reducible refine And.intro (by first | omega | (simp only [hgW]; omega)) ?_
   | (exfalso; omega)
theorem f38_else (d : Nat) (x : CI) (s : WS) (hf : Fit d x) (hs : s.Ok) (h : s.items + 1 ≤ 512) (hk : x.k = 0 ∨ 9 < x.k) :
    CallsB Tryd.prog 38 [.ptr 1000000 0, x.av, .int .i64 (d : Int)] [s.cells (4, 0)] (.int .i64 20) [({ s with items := s.items + 1 } : WS).cells (3, 0)] := by
  obtain ⟨b, items⟩ := s
  obtain ⟨hs1, hs2⟩ := hs
  obtain ⟨ki, ni, bni, bi, kni, kids⟩ := x
  simp only [CI.k] at *
  have e1 : ((items + 1 : Nat) : Int) = (items : Int) + 1 := by omega
  rw [av_mk']
  refine CallsB.introF Tryd.func38 rfl (by show 3 ≤ 86; decide) ?_
  rintro X hX
  have hn : X.n = 86 := hX
  unfold Tryd.f38
  dsimp only
  rw [entryB31]
  repeat' first
   | with_reducible refine Rl.go (by constructor <;> decide) ?_
   | ((with_reducible first | refine hK _ ?_ | refine hK.1 ?_ | refine hK.2 ?_); clear hK K)
   | ((with_reducible refine condS hK (fun hg => ?_) fun hg => ?_) <;> clear hK K <;> (try simp only [hgW] at hg) <;> try (exfalso; omega))
   | ((first | ((with_reducible first | refine Rk.go k38_VsCEncI (by constructor) ?_ | refine Rd.go 14 k38_VsCEncI a38_14_VsCEncI o38_14_VsCEncI mixed (by constructor) (by kernel_rfl) (by kernel_rfl) ?_ | refine Rd.go 18 k38_VsCEncI a38_18_VsCEncI o38_18_VsCEncI mixed (by constructor) (by kernel_rfl) (by kernel_rfl) ?_); intro K hK) | with_reducible refine Rr.go [] (by constructor) ?_ | (with_reducible refine guardP_split (fun hg => ?_) fun hg => ?_) <;> (try simp only [hg]) <;> (try simp only [hgW] at hg)) <;> simp -implicitDefEqProofs only [WS.cells, e1, Int.cast_ofNat_Int, hn, go_sem, simprocAttr] <;> try simp (disch := omega) only [wrW])
   | with_reducible refine And.intro (by first | omega | (simp only [hgW]; omega)) ?_
   | (exfalso; omega)
/-- A group is the group's own. -/
theorem f38_grp (d : Nat) (x : CI) (s : WS) (hs : s.Ok) (h : s.items + 1 ≤ 512) (hk : x.k = 5 ∨ x.k = 6) (r : Nat) (s' : WS)
    (c48 : CallsB Tryd.prog 48 [.ptr 1000000 0, x.av, .int .i64 (d : Int)] [({ s with items := s.items + 1 } : WS).cells (4, 0)] (.int .i64 (r : Int)) [s'.cells (3, 0)]) :
    CallsB Tryd.prog 38 [.ptr 1000000 0, x.av, .int .i64 (d : Int)] [s.cells (4, 0)] (.int .i64 (r : Int)) [s'.cells (3, 0)] := by
  obtain ⟨b, items⟩ := s
  obtain ⟨hs1, hs2⟩ := hs
  obtain ⟨b', items'⟩ := s'
  obtain ⟨ki, ni, bni, bi, kni, kids⟩ := x
  simp only [CI.k] at *
  have e1 : ((items + 1 : Nat) : Int) = (items : Int) + 1 := by omega
  rw [av_mk'] at *
  refine CallsB.introF Tryd.func38 rfl (by show 3 ≤ 86; decide) ?_
  rintro X hX
  have hn : X.n = 86 := hX
  unfold Tryd.f38
  dsimp only
  rw [entryB31]
  repeat' first
   | with_reducible refine Rl.go (by constructor <;> decide) ?_
   | ((with_reducible first | refine hK _ ?_ | refine hK.1 ?_ | refine hK.2 ?_); clear hK K)
   | ((with_reducible refine condS hK (fun hg => ?_) fun hg => ?_) <;> clear hK K <;> (try simp only [hgW] at hg) <;> try (exfalso; omega))
   | ((with_reducible refine callE_B3 c48 ?_); simp -implicitDefEqProofs only [eqOk_true, WS.cells, e1, Int.cast_ofNat_Int, hn, go_sem, simprocAttr]; (skip; try simp (disch := omega) only [wrW]); fail_if_success (with_reducible refine eqOk_mk ?_))
   | ((first | ((with_reducible first | refine Rk.go k38_VsCEncI (by constructor) ?_ | refine Rd.go 14 k38_VsCEncI a38_14_VsCEncI o38_14_VsCEncI mixed (by constructor) (by kernel_rfl) (by kernel_rfl) ?_ | refine Rd.go 18 k38_VsCEncI a38_18_VsCEncI o38_18_VsCEncI mixed (by constructor) (by kernel_rfl) (by kernel_rfl) ?_); intro K hK) | with_reducible refine Rr.go [] (by constructor) ?_ | (with_reducible refine guardP_split (fun hg => ?_) fun hg => ?_) <;> (try simp only [hg]) <;> (try simp only [hgW] at hg)) <;> simp -implicitDefEqProofs only [WS.cells, e1, Int.cast_ofNat_Int, hn, go_sem, simprocAttr] <;> try simp (disch := omega) only [wrW])
   | with_reducible refine And.intro (by first | omega | (simp only [hgW]; omega)) ?_
   | (exfalso; omega)
end Go.Proofs.YtijcpdgfbboamaaDoor
