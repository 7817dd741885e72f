/- The law JsonsTurned, if what is told answers true. -/
import Derived.Test.YtfemncfhiihckaaDoorVsMText
import Derived.Test.YtfemncfhiihckaaDoorVsLAwake
open Go Go.VS
namespace Go.Proofs.YtfemncfhiihckaaDoor
set_option linter.unusedVariables false
set_option linter.unusedSimpArgs false
set_option maxRecDepth 20000
set_option maxHeartbeats 4000000
def gapT : Nat → List UInt8
  | 0 => []
  | 1 => [32]
  | _ => [10, 9]
theorem u64_nat (z : Int) : ∃ w : Nat, IntKind.u64.wrap z = (w : Int) := by
  refine ⟨(IntKind.u64.wrap z).toNat, ?_⟩
  have : 0 ≤ IntKind.u64.wrap z := by
    unfold IntKind.wrap
    simp [IntKind.signed, IntKind.bits]
    omega
  omega
theorem entry4 (a b c d : AV) : entry [a, b, c, d] = ⟨lk [(0, a), (1, b), (2, c), (3, d)], lkB [], hasS [], hasS [], hasN [], lkR []⟩ := by
  unfold entry
  congr 1
  funext t
  exact (slots4 a b c d t).symm
def k3_VsMTurn : List Nat := [0,1,2,3,4,8,9,10,11,12,14,41,66,76,82]
def a3_3_VsMTurn : List Nat := [0,0,0,4,14,30,63,127,255]
def o3_3_VsMTurn : List Nat := [1,0,2,3,4,5,6,7,8]
def a3_14_VsMTurn : List Nat := [0,0,0,7,0,16,0,0,192,496,1023,2047]
def o3_14_VsMTurn : List Nat := [4,5,6,7,8,9,0,1,2,3,10,11]
def a3_10_VsMTurn : List Nat := [0,0,0,7,0,0,32,112,255,511]
def o3_10_VsMTurn : List Nat := [0,1,2,3,4,5,6,7,8,9]
attribute [go_sem] k3_VsMTurn a3_3_VsMTurn o3_3_VsMTurn a3_14_VsMTurn o3_14_VsMTurn a3_10_VsMTurn o3_10_VsMTurn
theorem f3_ok (h16 : ∀ b : List UInt8, b.length ≤ 1000000 → CallsP Tryd.prog 16 [.sl none false 1 (b.map u8)] (.bool true)) (v : GV) (hv : GVok 6 v) (g : UInt8) (na : Bool) (zs : List Int) (nt : Bool) (ts : List UInt8) (hz : zs.length ≤ 9223372036854775807) (ht : ts.length ≤ 9223372036854775807) :
    CallsP Tryd.prog 3 [v.av, .int .u8 (g.toNat : Int), .sl none na 1 (zs.map (AV.int .i64)), .sl none nt 1 (ts.map u8)] (.bool true) := by
  obtain ⟨j, hj, hj3⟩ : ∃ j : Nat, (g.toNat : Int) % 3 = (j : Int) ∧ j < 3 := ⟨g.toNat % 3, by omega, by omega⟩
  have hgl : [AV.str [], AV.str [32], AV.str [10, 9]][j]? = some (AV.str (gapT j)) := by
    rcases (by omega : j = 0 ∨ j = 1 ∨ j = 2) with rfl | rfl | rfl <;> rfl
  have hgp : (gapT j).length ≤ 3 := by
    rcases (by omega : j = 0 ∨ j = 1 ∨ j = 2) with rfl | rfl | rfl <;> decide
  have c15 : CallsP Tryd.prog 15 [v.av, .int .i64 5, .str (gapT j)] (.str (txtS (gapT j) 5 v)) := f15_ok (gapT j) hgp 5 v (by omega) hv
  have hT := txtS_len hgp 5 v
  have hT5 : lenT 5 = 3823403 := by decide
  obtain ⟨T, hTT⟩ : ∃ T, txtS (gapT j) 5 v = T := ⟨_, rfl⟩
  rw [hTT] at c15 hT
  rw [hT5] at hT
  obtain ⟨k, t, kn, ks⟩ := v
  rw [gav] at c15 ⊢
  refine CallsP.intro Tryd.func3 rfl (by show 4 ≤ 102; decide) ?_
  rintro X hX
  have hn : X.n = 102 := hX
  unfold Tryd.f3
  dsimp only
  rw [entry4]
  repeat' first
   | with_reducible refine Rl.go (by constructor <;> decide) ?_
   | ((with_reducible first | refine hK _ ?_ | refine hK.1 ?_ | refine hK.2 ?_); clear hK K)
   | ((with_reducible refine condS hK (fun hg => ?_) fun hg => ?_) <;> clear hK K <;> (try simp only [hgW] at hg) <;> try (exfalso; omega))
   | ((first | ((with_reducible first | refine Rk.go k3_VsMTurn (by constructor) ?_ | refine Rd.go 3 k3_VsMTurn a3_3_VsMTurn o3_3_VsMTurn mixed (by constructor) (by kernel_rfl) (by kernel_rfl) ?_ | refine Rd.go 14 k3_VsMTurn a3_14_VsMTurn o3_14_VsMTurn mixed (by constructor) (by kernel_rfl) (by kernel_rfl) ?_ | refine Rd.go 10 k3_VsMTurn a3_10_VsMTurn o3_10_VsMTurn mixed (by constructor) (by kernel_rfl) (by kernel_rfl) ?_); intro K hK) | with_reducible refine Rr.go [] (by constructor) ?_ | (with_reducible refine guardP_split (fun hg => ?_) fun hg => ?_) <;> (try simp only [hg]) <;> (try simp only [hgW] at hg) | refine Rc.go f14_ok (by constructor) ?_ | refine Rc.go c15 (by constructor) ?_) <;> simp -implicitDefEqProofs only [hj, hgl, hn, go_sem, simprocAttr] <;> try (simp (disch := omega) only [wrW]; try simp -implicitDefEqProofs only [hj, hgl, hn, go_sem, simprocAttr]))
   | with_reducible refine And.intro (by first | omega | (simp only [hgW]; omega)) ?_
   | (exfalso; omega)
  refine AWP.loopX [2, 3, 8, 9, 10] [4] (fun x : Nat × List UInt8 => St.mk (lk [(2, .sl none na 1 (zs.map (AV.int .i64))), (3, .sl none nt 1 (ts.map u8)), (8, .bool false), (9, .sl (some ((0, 22), 0)) false 1 (x.2.map u8)), (10, .int .i64 (x.1 : Int))]) (lkB []) (hasS []) (hasS []) (hasN []) (lkR []))
    (fun x => x.1 ≤ 4 ∧ x.2.length ≤ 3823403 + x.1) (fun x => 4 - x.1) (0, T) ?_ ⟨by omega, by omega⟩ ?_
  · simp -implicitDefEqProofs only [hn, go_sem, simprocAttr]
    try rfl
  rintro ⟨i, l⟩ ⟨h1, h2⟩
  try dsimp only at h1 h2 ⊢
  have ei : (i : Int) + 1 = ((i + 1 : Nat) : Int) := by omega
  by_cases hgo : i < zs.length ∧ i < ts.length ∧ i < 4 ∧ 0 < l.length
  · obtain ⟨g1, g2, g3, g4⟩ := hgo
    obtain ⟨z, hzz⟩ : ∃ z, zs.getD i default = z := ⟨_, rfl⟩
    obtain ⟨c0, hc0⟩ : ∃ c0, ts.getD i default = c0 := ⟨_, rfl⟩
    obtain ⟨w, hw⟩ := u64_nat z
    have hwl : IntKind.u64.wrap (l.length : Int) = (l.length : Int) := Go.IntWalk.u64_in _ (by omega)
    obtain ⟨k, hk, hkl⟩ : ∃ k : Nat, (w : Int) % (l.length : Int) = (k : Int) ∧ k < l.length := ⟨w % l.length, by omega, Nat.mod_lt _ g4⟩
    have hc0t := c0.toNat_lt
    obtain ⟨s, hs, hs17⟩ : ∃ s : Nat, (c0.toNat : Int) / 3 % 17 = (s : Int) ∧ s < 17 := ⟨c0.toNat / 3 % 17, by omega, by omega⟩
    obtain ⟨c, hds⟩ : ∃ c, ([123, 125, 91, 93, 58, 44, 34, 92, 32, 48, 45, 57, 116, 110, 46, 101, 117] : List UInt8)[s]? = some c := ⟨_, List.getElem?_eq_getElem (by simp; omega)⟩
    obtain ⟨r, hr, hr3⟩ : ∃ r : Nat, (c0.toNat : Int) % 3 = (r : Int) ∧ r < 3 := ⟨c0.toNat % 3, by omega, by omega⟩
    repeat' first
     | with_reducible refine Rl.go (by constructor <;> decide) ?_
     | ((with_reducible first | refine hK _ ?_ | refine hK.1 ?_ | refine hK.2 ?_); clear hK K)
     | ((with_reducible refine condS hK (fun hg => ?_) fun hg => ?_) <;> clear hK K <;> (try simp only [hgW] at hg) <;> try (exfalso; omega))
     | ((first | ((with_reducible first | refine Rk.go k3_VsMTurn (by constructor) ?_ | refine Rd.go 3 k3_VsMTurn a3_3_VsMTurn o3_3_VsMTurn mixed (by constructor) (by kernel_rfl) (by kernel_rfl) ?_ | refine Rd.go 14 k3_VsMTurn a3_14_VsMTurn o3_14_VsMTurn mixed (by constructor) (by kernel_rfl) (by kernel_rfl) ?_ | refine Rd.go 10 k3_VsMTurn a3_10_VsMTurn o3_10_VsMTurn mixed (by constructor) (by kernel_rfl) (by kernel_rfl) ?_); intro K hK) | with_reducible refine Rr.go [] (by constructor) ?_ | (with_reducible refine guardP_split (fun hg => ?_) fun hg => ?_) <;> (try simp only [hg]) <;> (try simp only [hgW] at hg)) <;> simp -implicitDefEqProofs only [u8, hzz, hc0, hw, hwl, hk, hs, hds, hr, bytes_one, hn, go_sem, simprocAttr] <;> try (simp (disch := omega) only [wrW]; try simp -implicitDefEqProofs only [u8, hzz, hc0, hw, hwl, hk, hs, hds, hr, bytes_one, hn, go_sem, simprocAttr]))
     | with_reducible refine And.intro (by first | omega | (simp only [hgW]; omega)) ?_
     | (exfalso; omega)
    · refine ⟨(i + 1, l.set k c), ?_, ⟨by omega, by simp only [List.length_set]; omega⟩, by omega⟩
      simp -implicitDefEqProofs only [ei, u8, List.map_set, hn, go_sem, simprocAttr]
      try rfl
    · refine ⟨(i + 1, l.take k ++ c :: l.drop k), ?_, ⟨by omega, by simp only [List.length_append, List.length_cons, List.length_take, List.length_drop]; omega⟩, by omega⟩
      simp -implicitDefEqProofs only [ei, u8, List.map_append, List.map_cons, hn, go_sem, simprocAttr]
      try rfl
    · refine ⟨(i + 1, l.take k ++ l.drop (k + 1)), ?_, ⟨by omega, by simp only [List.length_append, List.length_take, List.length_drop]; omega⟩, by omega⟩
      simp -implicitDefEqProofs only [ei, u8, List.map_append, hn, go_sem, simprocAttr]
      try rfl
  repeat' first
   | with_reducible refine Rl.go (by constructor <;> decide) ?_
   | ((with_reducible first | refine hK _ ?_ | refine hK.1 ?_ | refine hK.2 ?_); clear hK K)
   | ((with_reducible refine condS hK (fun hg => ?_) fun hg => ?_) <;> clear hK K <;> (try simp only [hgW] at hg) <;> try (exfalso; omega))
   | ((first | ((with_reducible first | refine Rk.go k3_VsMTurn (by constructor) ?_ | refine Rd.go 3 k3_VsMTurn a3_3_VsMTurn o3_3_VsMTurn mixed (by constructor) (by kernel_rfl) (by kernel_rfl) ?_ | refine Rd.go 14 k3_VsMTurn a3_14_VsMTurn o3_14_VsMTurn mixed (by constructor) (by kernel_rfl) (by kernel_rfl) ?_ | refine Rd.go 10 k3_VsMTurn a3_10_VsMTurn o3_10_VsMTurn mixed (by constructor) (by kernel_rfl) (by kernel_rfl) ?_); intro K hK) | with_reducible refine Rr.go [] (by constructor) ?_ | (with_reducible refine guardP_split (fun hg => ?_) fun hg => ?_) <;> (try simp only [hg]) <;> (try simp only [hgW] at hg) | refine Rc.go (h16 l (by omega)) (by constructor) ?_) <;> simp -implicitDefEqProofs only [hn, go_sem, simprocAttr] <;> try (simp (disch := omega) only [wrW]; try simp -implicitDefEqProofs only [hn, go_sem, simprocAttr]))
   | with_reducible refine And.intro (by first | omega | (simp only [hgW]; omega)) ?_
   | (exfalso; omega)
end Go.Proofs.YtfemncfhiihckaaDoor
