/- What the head of the document's writer comes to. -/
import Derived.Test.YtijcpdgfbboamaaDoorVsCEncT
import Derived.Test.YtijcpdgfbboamaaDoorVsCRef3
open Go Go.VS
namespace Go.Proofs.YtijcpdgfbboamaaDoor
set_option linter.unusedVariables false
set_option linter.unusedSimpArgs false
set_option maxRecDepth 20000
set_option maxHeartbeats 4000000
/-- The document's writer: its bytes, its items, its fault. -/
def WS.cellsR (s : WS) (code : Nat) (g : Stamp) : List AV := [.sl (some (g, 0)) s.b.isEmpty 1 (s.b.map u8), .int .i64 (s.items : Int), .int .i64 (code : Int)]
def wideN (n : Nat) : Nat := if n < 24 then 0 else 2 ^ sizeN n
def lowB (n : Nat) : Nat := if n < 24 then n else 24 + sizeN n
theorem hdW_eq (k n : Nat) : hdW k n = UInt8.ofNat (32 * k + lowB n) :: nbs n (wideN n) := by
  unfold hdW lowB wideN
  split
  · rfl
  · rw [Nat.add_assoc]
theorem low_lt (n : Nat) : lowB n < 32 := by
  unfold lowB sizeN
  (repeat' split) <;> omega
theorem low_wide (n : Nat) : (n < 24 ∧ lowB n = n ∧ wideN n = 0) ∨ (24 ≤ n ∧ n < 256 ∧ lowB n = 24 ∧ wideN n = 1) ∨ (256 ≤ n ∧ n < 65536 ∧ lowB n = 25 ∧ wideN n = 2) ∨
    (65536 ≤ n ∧ n < 4294967296 ∧ lowB n = 26 ∧ wideN n = 4) ∨ (4294967296 ≤ n ∧ lowB n = 27 ∧ wideN n = 8) := by
  unfold lowB wideN sizeN
  by_cases h1 : n < 24
  · rw [if_pos h1, if_pos h1]; omega
  rw [if_neg h1, if_neg h1]
  by_cases h2 : n < 256
  · rw [if_pos h2]; omega
  rw [if_neg h2]
  by_cases h3 : n < 65536
  · rw [if_pos h3]; omega
  rw [if_neg h3]
  by_cases h4 : n < 4294967296
  · rw [if_pos h4]; omega
  rw [if_neg h4]; omega
def k45_VsCRWH : List Nat := [0,1,2,6,7,8,9,10,16,24,46]
def a45_11_VsCRWH : List Nat := [0,0,2,6,14,0,0,64,224,480,992,2046,4095,8191,16383]
def o45_11_VsCRWH : List Nat := [5,6,7,8,9,10,1,2,3,4,11,0,12,13,14]
attribute [go_sem] k45_VsCRWH a45_11_VsCRWH o45_11_VsCRWH
theorem f45_ok (k n : Nat) (hk : k < 8) (h64 : n < 18446744073709551616) (s : WS) (code : Nat) (hb : s.b.length ≤ 100000000) :
    CallsB Tryd.prog 45 [.ptr 1000000 0, .int .i64 (k : Int), .int .u64 (n : Int)] [s.cellsR code (4, 0)] (.tup []) [(s.put (hdW k n)).cellsR code (3, 0)] := by
  obtain ⟨b, items⟩ := s
  simp only at hb
  have hw := low_wide n
  have hl := low_lt n
  obtain ⟨W, hW⟩ : ∃ W, wideN n = W := ⟨_, rfl⟩
  obtain ⟨c, hc⟩ : ∃ c, 32 * k + lowB n = c := ⟨_, rfl⟩
  rw [hW] at hw
  have e : (WS.put ⟨b, items⟩ (hdW k n)).cellsR code (3, 0) = [.sl (some ((3, 0), 0)) false 1 (b.map u8 ++ .int .u8 (c : Int) :: (nbs n W).map u8), .int .i64 (items : Int), .int .i64 (code : Int)] := by
    rw [hdW_eq, hW]
    unfold WS.put WS.cellsR
    simp only [List.map_append, List.map_cons]
    have : (b ++ UInt8.ofNat (32 * k + lowB n) :: nbs n W).isEmpty = false := by simp
    rw [this, ← hc]
    show [AV.sl _ _ _ (_ ++ AV.int _ _ :: _), _, _] = _
    rw [toN8 (by omega)]
  rw [e]
  refine CallsB.introF Tryd.func45 rfl (by show 3 ≤ 63; decide) ?_
  rintro X hX
  have hn : X.n = 63 := hX
  unfold Tryd.f45
  dsimp only
  rw [entryB31]
  repeat' first
   | (with_reducible refine markQ 7 ?_)
   | with_reducible (first | refine Rl.go (by constructor <;> decide) ?_ | refine AWP.loopT 5 ?_ | refine AWP.unroll 5 ?_)
   | ((with_reducible first | refine hK _ ?_ | refine hK.1 ?_ | refine hK.2 ?_); clear hK K)
   | ((with_reducible refine condS hK (fun hg => ?_) fun hg => ?_) <;> clear hK K <;> (try simp only [hgW] at hg) <;> try (exfalso; omega))
   | ((first | ((with_reducible first | refine Rk.go k45_VsCRWH (by constructor) ?_ | refine Rd.go 11 k45_VsCRWH a45_11_VsCRWH o45_11_VsCRWH mixed (by constructor) (by kernel_rfl) (by kernel_rfl) ?_); intro K hK) | with_reducible refine Rr.go [] (by constructor) ?_ | (with_reducible refine guardP_split (fun hg => ?_) fun hg => ?_) <;> (try simp only [hg]) <;> (try simp only [hgW] at hg)) <;> simp -implicitDefEqProofs only [WS.cellsR, Int.cast_ofNat_Int, hn, go_sem, simprocAttr] <;> try (simp (disch := omega) only [wrW]; try simp -implicitDefEqProofs only [WS.cellsR, Int.cast_ofNat_Int, hn, go_sem, simprocAttr]))
   | with_reducible refine And.intro (by first | omega | (simp only [hgW]; omega)) ?_
   | (exfalso; omega)
  all_goals unfold MarkQ
  all_goals
    have q0 : n < 24 → 32 * (k : Int) + (n : Int) % 32 = (c : Int) := by omega
    have q1 : 24 ≤ n → n < 256 → 32 * (k : Int) + 24 = (c : Int) := by omega
    have q2 : 256 ≤ n → n < 65536 → 32 * (k : Int) + 25 = (c : Int) := by omega
    have q3 : 65536 ≤ n → n < 4294967296 → 32 * (k : Int) + 26 = (c : Int) := by omega
    have q4 : 4294967296 ≤ n → 32 * (k : Int) + 27 = (c : Int) := by omega
  repeat' first
   | with_reducible refine Rl.go (by constructor <;> decide) ?_
   | ((with_reducible first | refine hK _ ?_ | refine hK.1 ?_ | refine hK.2 ?_); clear hK K)
   | ((with_reducible refine condS hK (fun hg => ?_) fun hg => ?_) <;> clear hK K <;> (try simp only [hgW] at hg) <;> try (exfalso; omega))
   | ((first | ((with_reducible first | refine Rk.go k45_VsCRWH (by constructor) ?_ | refine Rd.go 11 k45_VsCRWH a45_11_VsCRWH o45_11_VsCRWH mixed (by constructor) (by kernel_rfl) (by kernel_rfl) ?_); intro K hK) | with_reducible refine Rr.go [] (by constructor) ?_ | (with_reducible refine guardP_split (fun hg => ?_) fun hg => ?_) <;> (try simp only [hg]) <;> (try simp only [hgW] at hg)) <;> simp -implicitDefEqProofs only [Int.cast_ofNat_Int, hn, go_sem, simprocAttr] <;> try (simp (disch := omega) only [wrW, q0, q1, q2, q3, q4]; try simp -implicitDefEqProofs only [Int.cast_ofNat_Int, hn, go_sem, simprocAttr]))
   | with_reducible refine And.intro (by first | omega | (simp only [hgW]; omega)) ?_
   | (exfalso; omega)
  all_goals
    refine AWP.loopX [0, 2, 10] [] (fun x : Nat × List UInt8 => St.mk (lk [(0, .ptr 1000000 0), (2, .int .u64 (n : Int)), (10, .int .i64 ((x.1 : Int) - 1))]) (lkB [(1000000, [.sl (some ((4, 0), 0)) false 1 (b.map u8 ++ .int .u8 (c : Int) :: x.2.map u8), .int .i64 (items : Int), .int .i64 (code : Int)])]) (hasS []) (hasS []) (hasN []) (lkR []))
      (fun x => x.1 ≤ W ∧ x.2 ++ nbs n x.1 = nbs n W) (fun x => x.1) (W, []) ?_ ⟨Nat.le_refl _, rfl⟩ ?_
    · first
        | (have q : (W : Int) - 1 = 7 := by omega
           simp -implicitDefEqProofs only [q, Int.cast_ofNat_Int, hn, go_sem, simprocAttr]
           try rfl)
        | (have q : (W : Int) - 1 = 3 := by omega
           simp -implicitDefEqProofs only [q, Int.cast_ofNat_Int, hn, go_sem, simprocAttr]
           try rfl)
        | (have q : (W : Int) - 1 = 1 := by omega
           simp -implicitDefEqProofs only [q, Int.cast_ofNat_Int, hn, go_sem, simprocAttr]
           try rfl)
        | (have q : (W : Int) - 1 = 0 := by omega
           simp -implicitDefEqProofs only [q, Int.cast_ofNat_Int, hn, go_sem, simprocAttr]
           try rfl)
        | (have q : (W : Int) - 1 = -1 := by omega
           simp -implicitDefEqProofs only [q, Int.cast_ofNat_Int, hn, go_sem, simprocAttr]
           try rfl)
    rintro ⟨i, out⟩ ⟨hi, hd⟩
    simp only at hi hd
    have hol : out.length + i = W := by
      have := congrArg List.length hd
      rw [List.length_append, nbs_len, nbs_len] at this
      exact this
    cases i with
    | zero =>
      simp only [nbs, List.append_nil] at hd
      subst hd
      repeat' first
       | with_reducible refine Rl.go (by constructor <;> decide) ?_
       | ((with_reducible first | refine hK _ ?_ | refine hK.1 ?_ | refine hK.2 ?_); clear hK K)
       | ((with_reducible refine condS hK (fun hg => ?_) fun hg => ?_) <;> clear hK K <;> (try simp only [hgW] at hg) <;> try (exfalso; omega))
       | ((first | ((with_reducible first | refine Rk.go k45_VsCRWH (by constructor) ?_ | refine Rd.go 11 k45_VsCRWH a45_11_VsCRWH o45_11_VsCRWH mixed (by constructor) (by kernel_rfl) (by kernel_rfl) ?_); intro K hK) | with_reducible refine Rr.go [] (by constructor) ?_ | (with_reducible refine guardP_split (fun hg => ?_) fun hg => ?_) <;> (try simp only [hg]) <;> (try simp only [hgW] at hg)) <;> simp -implicitDefEqProofs only [Int.cast_ofNat_Int, hn, go_sem, simprocAttr] <;> try (simp (disch := omega) only [wrW, q0, q1, q2, q3, q4]; try simp -implicitDefEqProofs only [Int.cast_ofNat_Int, hn, go_sem, simprocAttr]))
       | with_reducible refine And.intro (by first | omega | (simp only [hgW]; omega)) ?_
       | (exfalso; omega)
    | succ i =>
      have hb8 := shr8 n i (by omega)
      have q : (8 * (((i + 1 : Nat) : Int) - 1)).toNat = 8 * i := by omega
      repeat' first
       | with_reducible refine Rl.go (by constructor <;> decide) ?_
       | ((with_reducible first | refine hK _ ?_ | refine hK.1 ?_ | refine hK.2 ?_); clear hK K)
       | ((with_reducible refine condS hK (fun hg => ?_) fun hg => ?_) <;> clear hK K <;> (try simp only [hgW] at hg) <;> try (exfalso; omega))
       | ((first | ((with_reducible first | refine Rk.go k45_VsCRWH (by constructor) ?_ | refine Rd.go 11 k45_VsCRWH a45_11_VsCRWH o45_11_VsCRWH mixed (by constructor) (by kernel_rfl) (by kernel_rfl) ?_); intro K hK) | with_reducible refine Rr.go [] (by constructor) ?_ | (with_reducible refine guardP_split (fun hg => ?_) fun hg => ?_) <;> (try simp only [hg]) <;> (try simp only [hgW] at hg)) <;> simp -implicitDefEqProofs only [u8, q, hb8, Int.cast_ofNat_Int, hn, go_sem, simprocAttr] <;> try (simp (disch := omega) only [wrW, q0, q1, q2, q3, q4]; try simp -implicitDefEqProofs only [u8, q, hb8, Int.cast_ofNat_Int, hn, go_sem, simprocAttr]))
       | with_reducible refine And.intro (by first | omega | (simp only [hgW]; omega)) ?_
       | (exfalso; omega)
      all_goals refine ⟨(i, out ++ [UInt8.ofNat (n / 256 ^ i)]), ?_, ⟨by simp only; omega, by simp only; rw [List.append_assoc]; exact hd⟩, by simp only; omega⟩
      all_goals
        have e1 : (((i + 1 : Nat) : Int) - 1 - 1) = (i : Int) - 1 := by omega
        have e2 : b.map u8 ++ AV.int .u8 (c : Int) :: out.map u8 ++ [AV.int .u8 ((UInt8.ofNat (n / 256 ^ i)).toNat : Int)] = b.map u8 ++ AV.int .u8 (c : Int) :: (out ++ [UInt8.ofNat (n / 256 ^ i)]).map u8 := by
          rw [List.map_append, List.append_assoc]; rfl
        rw [e1, e2]
        simp -implicitDefEqProofs only [Int.cast_ofNat_Int, hn, go_sem, simprocAttr]
      all_goals try rfl
end Go.Proofs.YtijcpdgfbboamaaDoor
open Go Go.VS
namespace Go.Proofs.YtijcpdgfbboamaaDoor
set_option linter.unusedVariables false
set_option linter.unusedSimpArgs false
set_option maxRecDepth 20000
set_option maxHeartbeats 4000000
/-- The order of keys, as the document asks it. -/
def badA (a b : CI) : Bool := !aheadS a b
def k35_VsCRWI : List Nat := [0,1,2,4,6,7,8,13,28,48,58,65,85,98,107,119,132,151,168,197,203]
def a35_24_VsCRWI : List Nat := [0,0,2,6,14,0,32,96,224,480,992,2016,4094,8191,16383,32767]
def o35_24_VsCRWI : List Nat := [5,6,7,8,9,10,11,1,2,3,4,12,0,13,14,15]
def a35_29_VsCRWI : List Nat := [0,0,2,6,14,0,32,126,255,511,1023]
def o35_29_VsCRWI : List Nat := [1,2,3,4,5,6,7,0,8,9,10]
def a35_14_VsCRWI : List Nat := [0,1,3,7,15,7,39,127,255,7,519,7,3591,7687,16383,32767,65535]
def o35_14_VsCRWI : List Nat := [0,1,2,3,4,5,6,7,8,9,10,11,12,13,14,15,16]
attribute [go_sem] k35_VsCRWI a35_24_VsCRWI o35_24_VsCRWI a35_29_VsCRWI o35_29_VsCRWI a35_14_VsCRWI o35_14_VsCRWI
theorem f35_stop (D : Nat) (x : CI) (s : WS) (code : Nat) (hc : code ≠ 0) : CallsB Tryd.prog 35 [.ptr 1000000 0, x.av, .int .i64 (D : Int)] [s.cellsR code (4, 0)] (.tup []) [s.cellsR code (3, 0)] := by
  obtain ⟨b, items⟩ := s
  obtain ⟨ki, ni, bni, bi, kni, kids⟩ := x
  rw [av_mk']
  refine CallsB.introF Tryd.func35 rfl (by show 3 ≤ 215; decide) ?_
  rintro X hX
  have hn : X.n = 215 := hX
  unfold Tryd.f35
  dsimp only
  rw [entryB31]
  repeat' first
   | with_reducible refine Rl.go (by constructor <;> decide) ?_
   | ((with_reducible first | refine hK _ ?_ | refine hK.1 ?_ | refine hK.2 ?_); clear hK K)
   | ((with_reducible refine condS hK (fun hg => ?_) fun hg => ?_) <;> clear hK K <;> (try simp only [hgW] at hg) <;> try (exfalso; omega))
   | ((first | ((with_reducible first | refine Rk.go k35_VsCRWI (by constructor) ?_ | refine Rd.go 24 k35_VsCRWI a35_24_VsCRWI o35_24_VsCRWI mixed (by constructor) (by kernel_rfl) (by kernel_rfl) ?_ | refine Rd.go 29 k35_VsCRWI a35_29_VsCRWI o35_29_VsCRWI mixed (by constructor) (by kernel_rfl) (by kernel_rfl) ?_ | refine Rd.go 14 k35_VsCRWI a35_14_VsCRWI o35_14_VsCRWI mixed (by constructor) (by kernel_rfl) (by kernel_rfl) ?_); intro K hK) | with_reducible refine Rr.go [] (by constructor) ?_ | (with_reducible refine guardP_split (fun hg => ?_) fun hg => ?_) <;> (try simp only [hg]) <;> (try simp only [hgW] at hg)) <;> simp -implicitDefEqProofs only [WS.cellsR, Int.cast_ofNat_Int, hn, go_sem, simprocAttr] <;> try simp (disch := omega) only [wrW])
   | with_reducible refine And.intro (by first | omega | (simp only [hgW]; omega)) ?_
   | (exfalso; omega)
theorem f35_err (D : Nat) (x : CI) (s : WS) (hs : s.Ok) (r : Nat) {valid : List UInt8 → Bool} (hv : ValidI valid) (hL : Lim x)
    (h : (512 < s.items + 1 ∧ r = 14) ∨ (s.items + 1 ≤ 512 ∧ (((x.k = 0 ∨ 9 < x.k) ∧ r = 20) ∨ (x.k = 4 ∧ valid x.b = false ∧ r = 23) ∨ ((x.k = 5 ∨ x.k = 6) ∧ D = 8 ∧ r = 13) ∨ (x.k = 6 ∧ D ≠ 8 ∧ x.ks.length % 2 = 1 ∧ r = 20)))) :
    CallsB Tryd.prog 35 [.ptr 1000000 0, x.av, .int .i64 (D : Int)] [s.cellsR 0 (4, 0)] (.tup []) [({ s with items := s.items + 1 } : WS).cellsR r (3, 0)] := by
  have c44 := hv x hL
  obtain ⟨b, items⟩ := s
  obtain ⟨hs1, hs2⟩ := hs
  obtain ⟨ki, ni, bni, bi, kni, kids⟩ := x
  simp only [CI.k, CI.n, CI.b, CI.bn, CI.ks] at *
  have e1 : ((items + 1 : Nat) : Int) = (items : Int) + 1 := by omega
  rw [av_mk']
  rcases h with ⟨h, rfl⟩ | ⟨h0, ⟨h, rfl⟩ | ⟨h, h', rfl⟩ | ⟨h, h', rfl⟩ | ⟨h, h', h'', rfl⟩⟩
  · refine CallsB.introF Tryd.func35 rfl (by show 3 ≤ 215; decide) ?_
    rintro X hX
    have hn : X.n = 215 := hX
    unfold Tryd.f35
    dsimp only
    rw [entryB31]
    repeat' first
     | with_reducible refine Rl.go (by constructor <;> decide) ?_
     | ((with_reducible first | refine hK _ ?_ | refine hK.1 ?_ | refine hK.2 ?_); clear hK K)
     | ((with_reducible refine condS hK (fun hg => ?_) fun hg => ?_) <;> clear hK K <;> (try simp only [hgW] at hg) <;> try (exfalso; omega))
     | ((first | ((with_reducible first | refine Rk.go k35_VsCRWI (by constructor) ?_ | refine Rd.go 24 k35_VsCRWI a35_24_VsCRWI o35_24_VsCRWI mixed (by constructor) (by kernel_rfl) (by kernel_rfl) ?_ | refine Rd.go 29 k35_VsCRWI a35_29_VsCRWI o35_29_VsCRWI mixed (by constructor) (by kernel_rfl) (by kernel_rfl) ?_ | refine Rd.go 14 k35_VsCRWI a35_14_VsCRWI o35_14_VsCRWI mixed (by constructor) (by kernel_rfl) (by kernel_rfl) ?_); intro K hK) | with_reducible refine Rr.go [] (by constructor) ?_ | (with_reducible refine guardP_split (fun hg => ?_) fun hg => ?_) <;> (try simp only [hg]) <;> (try simp only [hgW] at hg)) <;> simp -implicitDefEqProofs only [WS.cellsR, e1, Int.cast_ofNat_Int, hn, go_sem, simprocAttr] <;> try simp (disch := omega) only [wrW])
     | with_reducible refine And.intro (by first | omega | (simp only [hgW]; omega)) ?_
     | (exfalso; omega)
  · refine CallsB.introF Tryd.func35 rfl (by show 3 ≤ 215; decide) ?_
    rintro X hX
    have hn : X.n = 215 := hX
    unfold Tryd.f35
    dsimp only
    rw [entryB31]
    repeat' first
     | with_reducible refine Rl.go (by constructor <;> decide) ?_
     | ((with_reducible first | refine hK _ ?_ | refine hK.1 ?_ | refine hK.2 ?_); clear hK K)
     | ((with_reducible refine condS hK (fun hg => ?_) fun hg => ?_) <;> clear hK K <;> (try simp only [hgW] at hg) <;> try (exfalso; omega))
     | ((first | ((with_reducible first | refine Rk.go k35_VsCRWI (by constructor) ?_ | refine Rd.go 24 k35_VsCRWI a35_24_VsCRWI o35_24_VsCRWI mixed (by constructor) (by kernel_rfl) (by kernel_rfl) ?_ | refine Rd.go 29 k35_VsCRWI a35_29_VsCRWI o35_29_VsCRWI mixed (by constructor) (by kernel_rfl) (by kernel_rfl) ?_ | refine Rd.go 14 k35_VsCRWI a35_14_VsCRWI o35_14_VsCRWI mixed (by constructor) (by kernel_rfl) (by kernel_rfl) ?_); intro K hK) | with_reducible refine Rr.go [] (by constructor) ?_ | (with_reducible refine guardP_split (fun hg => ?_) fun hg => ?_) <;> (try simp only [hg]) <;> (try simp only [hgW] at hg)) <;> simp -implicitDefEqProofs only [WS.cellsR, e1, Int.cast_ofNat_Int, hn, go_sem, simprocAttr] <;> try simp (disch := omega) only [wrW])
     | with_reducible refine And.intro (by first | omega | (simp only [hgW]; omega)) ?_
     | (exfalso; omega)
  · rw [h'] at c44
    refine CallsB.introF Tryd.func35 rfl (by show 3 ≤ 215; decide) ?_
    rintro X hX
    have hn : X.n = 215 := hX
    unfold Tryd.f35
    dsimp only
    rw [entryB31]
    repeat' first
     | with_reducible refine Rl.go (by constructor <;> decide) ?_
     | ((with_reducible first | refine hK _ ?_ | refine hK.1 ?_ | refine hK.2 ?_); clear hK K)
     | ((with_reducible refine condS hK (fun hg => ?_) fun hg => ?_) <;> clear hK K <;> (try simp only [hgW] at hg) <;> try (exfalso; omega))
     | ((first | ((with_reducible first | refine Rk.go k35_VsCRWI (by constructor) ?_ | refine Rd.go 24 k35_VsCRWI a35_24_VsCRWI o35_24_VsCRWI mixed (by constructor) (by kernel_rfl) (by kernel_rfl) ?_ | refine Rd.go 29 k35_VsCRWI a35_29_VsCRWI o35_29_VsCRWI mixed (by constructor) (by kernel_rfl) (by kernel_rfl) ?_ | refine Rd.go 14 k35_VsCRWI a35_14_VsCRWI o35_14_VsCRWI mixed (by constructor) (by kernel_rfl) (by kernel_rfl) ?_); intro K hK) | with_reducible refine Rr.go [] (by constructor) ?_ | (with_reducible refine guardP_split (fun hg => ?_) fun hg => ?_) <;> (try simp only [hg]) <;> (try simp only [hgW] at hg) | refine Rc.go c44 (by constructor) ?_) <;> simp -implicitDefEqProofs only [WS.cellsR, e1, Int.cast_ofNat_Int, hn, go_sem, simprocAttr] <;> try simp (disch := omega) only [wrW])
     | with_reducible refine And.intro (by first | omega | (simp only [hgW]; omega)) ?_
     | (exfalso; omega)
  · refine CallsB.introF Tryd.func35 rfl (by show 3 ≤ 215; decide) ?_
    rintro X hX
    have hn : X.n = 215 := hX
    unfold Tryd.f35
    dsimp only
    rw [entryB31]
    repeat' first
     | with_reducible refine Rl.go (by constructor <;> decide) ?_
     | ((with_reducible first | refine hK _ ?_ | refine hK.1 ?_ | refine hK.2 ?_); clear hK K)
     | ((with_reducible refine condS hK (fun hg => ?_) fun hg => ?_) <;> clear hK K <;> (try simp only [hgW] at hg) <;> try (exfalso; omega))
     | ((first | ((with_reducible first | refine Rk.go k35_VsCRWI (by constructor) ?_ | refine Rd.go 24 k35_VsCRWI a35_24_VsCRWI o35_24_VsCRWI mixed (by constructor) (by kernel_rfl) (by kernel_rfl) ?_ | refine Rd.go 29 k35_VsCRWI a35_29_VsCRWI o35_29_VsCRWI mixed (by constructor) (by kernel_rfl) (by kernel_rfl) ?_ | refine Rd.go 14 k35_VsCRWI a35_14_VsCRWI o35_14_VsCRWI mixed (by constructor) (by kernel_rfl) (by kernel_rfl) ?_); intro K hK) | with_reducible refine Rr.go [] (by constructor) ?_ | (with_reducible refine guardP_split (fun hg => ?_) fun hg => ?_) <;> (try simp only [hg]) <;> (try simp only [hgW] at hg)) <;> simp -implicitDefEqProofs only [WS.cellsR, e1, Int.cast_ofNat_Int, hn, go_sem, simprocAttr] <;> try simp (disch := omega) only [wrW])
     | with_reducible refine And.intro (by first | omega | (simp only [hgW]; omega)) ?_
     | (exfalso; omega)
  · have ho : (kids.length : Int) % 2 = 1 := by omega
    refine CallsB.introF Tryd.func35 rfl (by show 3 ≤ 215; decide) ?_
    rintro X hX
    have hn : X.n = 215 := hX
    unfold Tryd.f35
    dsimp only
    rw [entryB31]
    repeat' first
     | with_reducible refine Rl.go (by constructor <;> decide) ?_
     | ((with_reducible first | refine hK _ ?_ | refine hK.1 ?_ | refine hK.2 ?_); clear hK K)
     | ((with_reducible refine condS hK (fun hg => ?_) fun hg => ?_) <;> clear hK K <;> (try simp only [hgW] at hg) <;> try (exfalso; omega))
     | ((first | ((with_reducible first | refine Rk.go k35_VsCRWI (by constructor) ?_ | refine Rd.go 24 k35_VsCRWI a35_24_VsCRWI o35_24_VsCRWI mixed (by constructor) (by kernel_rfl) (by kernel_rfl) ?_ | refine Rd.go 29 k35_VsCRWI a35_29_VsCRWI o35_29_VsCRWI mixed (by constructor) (by kernel_rfl) (by kernel_rfl) ?_ | refine Rd.go 14 k35_VsCRWI a35_14_VsCRWI o35_14_VsCRWI mixed (by constructor) (by kernel_rfl) (by kernel_rfl) ?_); intro K hK) | with_reducible refine Rr.go [] (by constructor) ?_ | (with_reducible refine guardP_split (fun hg => ?_) fun hg => ?_) <;> (try simp only [hg]) <;> (try simp only [hgW] at hg)) <;> simp -implicitDefEqProofs only [WS.cellsR, e1, ho, Int.cast_ofNat_Int, hn, go_sem, simprocAttr] <;> try (simp (disch := omega) only [wrW]; try simp -implicitDefEqProofs only [WS.cellsR, e1, ho, Int.cast_ofNat_Int, hn, go_sem, simprocAttr]))
     | with_reducible refine And.intro (by first | omega | (simp only [hgW]; omega)) ?_
     | (exfalso; omega)
theorem f35_num (D : Nat) (x : CI) (s : WS) (hL : Lim x) (hs : s.Ok) (h : s.items + 1 ≤ 512) (hk : x.k = 1 ∨ x.k = 2) :
    CallsB Tryd.prog 35 [.ptr 1000000 0, x.av, .int .i64 (D : Int)] [s.cellsR 0 (4, 0)] (.tup []) [(({ s with items := s.items + 1 } : WS).put (hdW (x.k - 1) x.n)).cellsR 0 (3, 0)] := by
  obtain ⟨f1, f2, f3, f4, f5⟩ := hL
  have c45 := f45_ok (x.k - 1) x.n (by omega) f2 { s with items := s.items + 1 } 0 (by have := hs.2; simp only; omega)
  obtain ⟨b, items⟩ := s
  obtain ⟨hs1, hs2⟩ := hs
  obtain ⟨ki, ni, bni, bi, kni, kids⟩ := x
  simp only [CI.k, CI.n] at *
  have hk1 : ((ki - 1 : Nat) : Int) = (ki : Int) - 1 := by omega
  have e1 : ((items + 1 : Nat) : Int) = (items : Int) + 1 := by omega
  generalize hp : (WS.put ⟨b, items + 1⟩ (hdW (ki - 1) ni)) = p at *
  obtain ⟨b', items'⟩ := p
  rw [av_mk']
  refine CallsB.introF Tryd.func35 rfl (by show 3 ≤ 215; decide) ?_
  rintro X hX
  have hn : X.n = 215 := hX
  unfold Tryd.f35
  dsimp only
  rw [entryB31]
  repeat' first
   | with_reducible refine Rl.go (by constructor <;> decide) ?_
   | ((with_reducible first | refine hK _ ?_ | refine hK.1 ?_ | refine hK.2 ?_); clear hK K)
   | ((with_reducible refine condS hK (fun hg => ?_) fun hg => ?_) <;> clear hK K <;> (try simp only [hgW] at hg) <;> try (exfalso; omega))
   | ((with_reducible refine callE_B3 c45 ?_); simp -implicitDefEqProofs only [eqOk_true, WS.cellsR, e1, hk1, Int.cast_ofNat_Int, hn, go_sem, simprocAttr]; (skip; try simp (disch := omega) only [wrW]); fail_if_success (with_reducible refine eqOk_mk ?_))
   | ((first | ((with_reducible first | refine Rk.go k35_VsCRWI (by constructor) ?_ | refine Rd.go 24 k35_VsCRWI a35_24_VsCRWI o35_24_VsCRWI mixed (by constructor) (by kernel_rfl) (by kernel_rfl) ?_ | refine Rd.go 29 k35_VsCRWI a35_29_VsCRWI o35_29_VsCRWI mixed (by constructor) (by kernel_rfl) (by kernel_rfl) ?_ | refine Rd.go 14 k35_VsCRWI a35_14_VsCRWI o35_14_VsCRWI mixed (by constructor) (by kernel_rfl) (by kernel_rfl) ?_); intro K hK) | with_reducible refine Rr.go [] (by constructor) ?_ | (with_reducible refine guardP_split (fun hg => ?_) fun hg => ?_) <;> (try simp only [hg]) <;> (try simp only [hgW] at hg)) <;> simp -implicitDefEqProofs only [WS.cellsR, e1, hk1, Int.cast_ofNat_Int, hn, go_sem, simprocAttr] <;> try simp (disch := omega) only [wrW])
   | with_reducible refine And.intro (by first | omega | (simp only [hgW]; omega)) ?_
   | (exfalso; omega)
theorem f35_txt {valid : List UInt8 → Bool} (hv : ValidI valid) (D : Nat) (x : CI) (s : WS) (hL : Lim x) (hs : s.Ok) (h : s.items + 1 ≤ 512) (hk : x.k = 3 ∨ x.k = 4) (hx : ¬ (x.k = 4 ∧ valid x.b = false)) :
    CallsB Tryd.prog 35 [.ptr 1000000 0, x.av, .int .i64 (D : Int)] [s.cellsR 0 (4, 0)] (.tup []) [((({ s with items := s.items + 1 } : WS).put (hdW (x.k - 1) x.b.length)).put x.b).cellsR 0 (3, 0)] := by
  have c44 := hv x hL
  obtain ⟨f1, f2, f3, f4, f5⟩ := hL
  have c45 := f45_ok (x.k - 1) x.b.length (by omega) (by omega) { s with items := s.items + 1 } 0 (by have := hs.2; simp only; omega)
  have hl1 := hdW_len (x.k - 1) x.b.length
  have hl9 := hdW_le (x.k - 1) x.b.length
  obtain ⟨b, items⟩ := s
  obtain ⟨hs1, hs2⟩ := hs
  obtain ⟨ki, ni, bni, bi, kni, kids⟩ := x
  simp only [CI.k, CI.n, CI.b, CI.bn] at *
  have hk1 : ((ki - 1 : Nat) : Int) = (ki : Int) - 1 := by omega
  have e1 : ((items + 1 : Nat) : Int) = (items : Int) + 1 := by omega
  generalize hp : hdW (ki - 1) bi.length = p at *
  have e2 : (b ++ p).isEmpty = false := by cases p <;> simp_all
  have e3 : (b ++ p ++ bi).isEmpty = false := by cases p <;> simp_all
  have e4 : (b ++ p).map u8 = b.map u8 ++ p.map u8 := List.map_append
  have e5 : (b ++ p ++ bi).map u8 = b.map u8 ++ p.map u8 ++ bi.map u8 := by rw [List.map_append, List.map_append]
  rw [av_mk']
  by_cases h4 : ki = 4
  · have hv' : valid bi = true := by
      cases e : valid bi with
      | true => rfl
      | false => exact absurd ⟨h4, e⟩ hx
    rw [hv'] at c44
    refine CallsB.introF Tryd.func35 rfl (by show 3 ≤ 215; decide) ?_
    rintro X hX
    have hn : X.n = 215 := hX
    unfold Tryd.f35
    dsimp only
    rw [entryB31]
    repeat' first
     | with_reducible refine Rl.go (by constructor <;> decide) ?_
     | ((with_reducible first | refine hK _ ?_ | refine hK.1 ?_ | refine hK.2 ?_); clear hK K)
     | ((with_reducible refine condS hK (fun hg => ?_) fun hg => ?_) <;> clear hK K <;> (try simp only [hgW] at hg) <;> try (exfalso; omega))
     | ((with_reducible refine callE_B3 c45 ?_); simp -implicitDefEqProofs only [eqOk_true, WS.cellsR, WS.put, e1, hk1, e2, e3, e4, e5, Int.cast_ofNat_Int, hn, go_sem, simprocAttr]; (skip; try simp (disch := omega) only [wrW]); fail_if_success (with_reducible refine eqOk_mk ?_))
     | ((first | ((with_reducible first | refine Rk.go k35_VsCRWI (by constructor) ?_ | refine Rd.go 24 k35_VsCRWI a35_24_VsCRWI o35_24_VsCRWI mixed (by constructor) (by kernel_rfl) (by kernel_rfl) ?_ | refine Rd.go 29 k35_VsCRWI a35_29_VsCRWI o35_29_VsCRWI mixed (by constructor) (by kernel_rfl) (by kernel_rfl) ?_ | refine Rd.go 14 k35_VsCRWI a35_14_VsCRWI o35_14_VsCRWI mixed (by constructor) (by kernel_rfl) (by kernel_rfl) ?_); intro K hK) | with_reducible refine Rr.go [] (by constructor) ?_ | (with_reducible refine guardP_split (fun hg => ?_) fun hg => ?_) <;> (try simp only [hg]) <;> (try simp only [hgW] at hg) | refine Rc.go c44 (by constructor) ?_) <;> simp -implicitDefEqProofs only [WS.cellsR, WS.put, e1, hk1, e2, e3, e4, e5, Int.cast_ofNat_Int, hn, go_sem, simprocAttr] <;> try simp (disch := omega) only [wrW])
     | with_reducible refine And.intro (by first | omega | (simp only [hgW]; omega)) ?_
     | (exfalso; omega)
  · refine CallsB.introF Tryd.func35 rfl (by show 3 ≤ 215; decide) ?_
    rintro X hX
    have hn : X.n = 215 := hX
    unfold Tryd.f35
    dsimp only
    rw [entryB31]
    repeat' first
     | with_reducible refine Rl.go (by constructor <;> decide) ?_
     | ((with_reducible first | refine hK _ ?_ | refine hK.1 ?_ | refine hK.2 ?_); clear hK K)
     | ((with_reducible refine condS hK (fun hg => ?_) fun hg => ?_) <;> clear hK K <;> (try simp only [hgW] at hg) <;> try (exfalso; omega))
     | ((with_reducible refine callE_B3 c45 ?_); simp -implicitDefEqProofs only [eqOk_true, WS.cellsR, WS.put, e1, hk1, e2, e3, e4, e5, Int.cast_ofNat_Int, hn, go_sem, simprocAttr]; (skip; try simp (disch := omega) only [wrW]); fail_if_success (with_reducible refine eqOk_mk ?_))
     | ((first | ((with_reducible first | refine Rk.go k35_VsCRWI (by constructor) ?_ | refine Rd.go 24 k35_VsCRWI a35_24_VsCRWI o35_24_VsCRWI mixed (by constructor) (by kernel_rfl) (by kernel_rfl) ?_ | refine Rd.go 29 k35_VsCRWI a35_29_VsCRWI o35_29_VsCRWI mixed (by constructor) (by kernel_rfl) (by kernel_rfl) ?_ | refine Rd.go 14 k35_VsCRWI a35_14_VsCRWI o35_14_VsCRWI mixed (by constructor) (by kernel_rfl) (by kernel_rfl) ?_); intro K hK) | with_reducible refine Rr.go [] (by constructor) ?_ | (with_reducible refine guardP_split (fun hg => ?_) fun hg => ?_) <;> (try simp only [hg]) <;> (try simp only [hgW] at hg) | refine Rc.go c44 (by constructor) ?_) <;> simp -implicitDefEqProofs only [WS.cellsR, WS.put, e1, hk1, e2, e3, e4, e5, Int.cast_ofNat_Int, hn, go_sem, simprocAttr] <;> try simp (disch := omega) only [wrW])
     | with_reducible refine And.intro (by first | omega | (simp only [hgW]; omega)) ?_
     | (exfalso; omega)
theorem f35_one (D : Nat) (x : CI) (s : WS) (hL : Lim x) (hs : s.Ok) (h : s.items + 1 ≤ 512) (hk : x.k = 7 ∨ x.k = 8 ∨ x.k = 9) :
    CallsB Tryd.prog 35 [.ptr 1000000 0, x.av, .int .i64 (D : Int)] [s.cellsR 0 (4, 0)] (.tup []) [(({ s with items := s.items + 1 } : WS).put [UInt8.ofNat (244 + (x.k - 7))]).cellsR 0 (3, 0)] := by
  obtain ⟨b, items⟩ := s
  obtain ⟨hs1, hs2⟩ := hs
  obtain ⟨ki, ni, bni, bi, kni, kids⟩ := x
  simp only [CI.k] at *
  have e1 : ((items + 1 : Nat) : Int) = (items : Int) + 1 := by omega
  obtain ⟨c, hc⟩ : ∃ c : UInt8, UInt8.ofNat (244 + (ki - 7)) = c := ⟨_, rfl⟩
  have hc' : 244 + (ki : Int) - 7 = (c.toNat : Int) := by rw [← hc, toN8 (by omega)]; omega
  rw [hc]
  have e3 : (b ++ [c]).isEmpty = false := by simp
  have e5 : (b ++ [c]).map u8 = b.map u8 ++ [.int .u8 (c.toNat : Int)] := by rw [List.map_append]; rfl
  rw [av_mk']
  refine CallsB.introF Tryd.func35 rfl (by show 3 ≤ 215; decide) ?_
  rintro X hX
  have hn : X.n = 215 := hX
  unfold Tryd.f35
  dsimp only
  rw [entryB31]
  repeat' first
   | with_reducible refine Rl.go (by constructor <;> decide) ?_
   | ((with_reducible first | refine hK _ ?_ | refine hK.1 ?_ | refine hK.2 ?_); clear hK K)
   | ((with_reducible refine condS hK (fun hg => ?_) fun hg => ?_) <;> clear hK K <;> (try simp only [hgW] at hg) <;> try (exfalso; omega))
   | ((first | ((with_reducible first | refine Rk.go k35_VsCRWI (by constructor) ?_ | refine Rd.go 24 k35_VsCRWI a35_24_VsCRWI o35_24_VsCRWI mixed (by constructor) (by kernel_rfl) (by kernel_rfl) ?_ | refine Rd.go 29 k35_VsCRWI a35_29_VsCRWI o35_29_VsCRWI mixed (by constructor) (by kernel_rfl) (by kernel_rfl) ?_ | refine Rd.go 14 k35_VsCRWI a35_14_VsCRWI o35_14_VsCRWI mixed (by constructor) (by kernel_rfl) (by kernel_rfl) ?_); intro K hK) | with_reducible refine Rr.go [] (by constructor) ?_ | (with_reducible refine guardP_split (fun hg => ?_) fun hg => ?_) <;> (try simp only [hg]) <;> (try simp only [hgW] at hg)) <;> simp -implicitDefEqProofs only [WS.cellsR, WS.put, e1, hc', e3, e5, Int.cast_ofNat_Int, hn, go_sem, simprocAttr] <;> try simp (disch := omega) only [wrW])
   | with_reducible refine And.intro (by first | omega | (simp only [hgW]; omega)) ?_
   | (exfalso; omega)
end Go.Proofs.YtijcpdgfbboamaaDoor
