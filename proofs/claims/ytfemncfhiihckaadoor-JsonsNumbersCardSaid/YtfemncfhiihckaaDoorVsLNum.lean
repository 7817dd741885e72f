/- The law JsonsNumbers answers true. -/
import Derived.Test.YtfemncfhiihckaaDoorVsLAwake
import Derived.Test.YtfemncfhiihckaaDoorVsLTold
open Go Go.VS
namespace Go.Proofs.YtfemncfhiihckaaDoor
set_option linter.unusedVariables false
set_option linter.unusedSimpArgs false
set_option maxRecDepth 20000
set_option maxHeartbeats 4000000
def digsN : List UInt8 := [48, 49, 50, 51, 52, 53, 54, 55, 56, 57, 45, 43, 46, 101, 69, 48]
def numT (l : List UInt8) : List UInt8 := l.map fun x => digsN.getD (x.toNat % 16) default
theorem bytes_one (c : UInt8) : bytesOf [AV.int .u8 (c.toNat : Int)] = some [c] := bytesOf_u8 [c]
def k5_VsLNum : List Nat := [0,2,3,5,7,10,11,12,13,14]
attribute [go_sem] k5_VsLNum
theorem f5_ok (l : List UInt8) (nb : Bool) (hl : l.length ≤ 9223372036854775807) : CallsP Tryd.prog 5 [.sl none nb 1 (l.map u8)] (.bool true) := by
  by_cases h100 : 100 < l.length
  · refine CallsP.intro Tryd.func5 rfl (by show 1 ≤ 38; decide) ?_
    rintro X hX
    have hn : X.n = 38 := hX
    unfold Tryd.f5
    dsimp only
    rw [entry1]
    repeat' first
     | with_reducible refine Rl.go (by constructor <;> decide) ?_
     | ((with_reducible first | refine hK _ ?_ | refine hK.1 ?_ | refine hK.2 ?_); clear hK K)
     | ((with_reducible refine condS hK (fun hg => ?_) fun hg => ?_) <;> clear hK K <;> (try simp only [hgW] at hg) <;> try (exfalso; omega))
     | ((first | ((with_reducible first | refine Rk.go k5_VsLNum (by constructor) ?_); intro K hK) | with_reducible refine Rr.go [] (by constructor) ?_ | (with_reducible refine guardP_split (fun hg => ?_) fun hg => ?_) <;> (try simp only [hg]) <;> (try simp only [hgW] at hg) | refine Rc.go f14_ok (by constructor) ?_) <;> simp -implicitDefEqProofs only [hn, go_sem, simprocAttr] <;> try (simp (disch := omega) only [wrW]; try simp -implicitDefEqProofs only [hn, go_sem, simprocAttr]))
     | with_reducible refine And.intro (by first | omega | (simp only [hgW]; omega)) ?_
     | (exfalso; omega)
  refine CallsP.intro Tryd.func5 rfl (by show 1 ≤ 38; decide) ?_
  rintro X hX
  have hn : X.n = 38 := hX
  unfold Tryd.f5
  dsimp only
  rw [entry1]
  repeat' first
   | with_reducible refine Rl.go (by constructor <;> decide) ?_
   | ((with_reducible first | refine hK _ ?_ | refine hK.1 ?_ | refine hK.2 ?_); clear hK K)
   | ((with_reducible refine condS hK (fun hg => ?_) fun hg => ?_) <;> clear hK K <;> (try simp only [hgW] at hg) <;> try (exfalso; omega))
   | ((first | ((with_reducible first | refine Rk.go k5_VsLNum (by constructor) ?_); intro K hK) | with_reducible refine Rr.go [] (by constructor) ?_ | (with_reducible refine guardP_split (fun hg => ?_) fun hg => ?_) <;> (try simp only [hg]) <;> (try simp only [hgW] at hg) | refine Rc.go f14_ok (by constructor) ?_) <;> simp -implicitDefEqProofs only [hn, go_sem, simprocAttr] <;> try (simp (disch := omega) only [wrW]; try simp -implicitDefEqProofs only [hn, go_sem, simprocAttr]))
   | with_reducible refine And.intro (by first | omega | (simp only [hgW]; omega)) ?_
   | (exfalso; omega)
  refine AWP.loopX [2, 3, 11, 12, 13] [] (fun i : Nat => St.mk (lk [(2, .bool false), (3, .str (numT (l.take i))), (11, .sl none nb 1 (l.map u8)), (12, .int .i64 (l.length : Int)), (13, .int .i64 (i : Int))]) (lkB []) (hasS []) (hasS []) (hasN []) (lkR []))
    (fun i => i ≤ l.length) (fun i => l.length - i) 0 ?_ (Nat.zero_le _) ?_
  · simp -implicitDefEqProofs only [numT, hn, go_sem, simprocAttr]
    try rfl
  intro i hi
  try dsimp only
  have ei : (i : Int) + 1 = ((i + 1 : Nat) : Int) := by omega
  by_cases hil : i = l.length
  · subst hil
    rw [List.take_length]
    obtain ⟨t, ht⟩ : ∃ t, numT l = t := ⟨_, rfl⟩
    have htl : t.length ≤ 100 := by rw [← ht]; simp [numT]; omega
    rw [ht]
    have ca := f16_ok t false (by omega)
    have cb : CallsP Tryd.prog 16 [.sl none false 1 (u8 91 :: (t ++ [44] ++ t ++ [93]).map u8)] (.bool true) := f16_ok (91 :: (t ++ [44] ++ t ++ [93])) false (by simp; omega)
    repeat' first
     | with_reducible refine Rl.go (by constructor <;> decide) ?_
     | ((with_reducible first | refine hK _ ?_ | refine hK.1 ?_ | refine hK.2 ?_); clear hK K)
     | ((with_reducible refine condS hK (fun hg => ?_) fun hg => ?_) <;> clear hK K <;> (try simp only [hgW] at hg) <;> try (exfalso; omega))
     | ((first | ((with_reducible first | refine Rk.go k5_VsLNum (by constructor) ?_); intro K hK) | with_reducible refine Rr.go [] (by constructor) ?_ | (with_reducible refine guardP_split (fun hg => ?_) fun hg => ?_) <;> (try simp only [hg]) <;> (try simp only [hgW] at hg) | refine Rc.go ca (by constructor) ?_ | refine Rc.go cb (by constructor) ?_) <;> simp -implicitDefEqProofs only [hn, go_sem, simprocAttr] <;> try (simp (disch := omega) only [wrW]; try simp -implicitDefEqProofs only [hn, go_sem, simprocAttr]))
     | with_reducible refine And.intro (by first | omega | (simp only [hgW]; omega)) ?_
     | (exfalso; omega)
  · obtain ⟨x, hx⟩ : ∃ x, l.getD i default = x := ⟨_, rfl⟩
    have hxt := x.toNat_lt
    obtain ⟨c, hc⟩ : ∃ c, digsN.getD (x.toNat % 16) default = c := ⟨_, rfl⟩
    have hds : digsN[x.toNat % 16]? = some c := by
      rw [← hc, List.getD_eq_getElem?_getD, List.getElem?_eq_getElem (show x.toNat % 16 < digsN.length by simp [digsN]; omega)]; rfl
    have hlit : ([48, 49, 50, 51, 52, 53, 54, 55, 56, 57, 45, 43, 46, 101, 69, 48] : List UInt8)[x.toNat % 16]? = some c := hds
    have em : ((x.toNat : Int) % 16).toNat = x.toNat % 16 := by omega
    have hstep : numT (l.take (i + 1)) = numT (l.take i) ++ [c] := by
      unfold numT
      rw [List.take_succ_eq_append_getElem (show i < l.length by omega), List.map_append]
      rw [List.getD_eq_getElem?_getD, List.getElem?_eq_getElem (show i < l.length by omega)] at hx
      simp only [Option.getD_some] at hx
      rw [hx, List.map_cons, List.map_nil, hc]
    have htl : (numT (l.take i)).length ≤ 100 := by simp [numT]; omega
    obtain ⟨t, ht⟩ : ∃ t, numT (l.take i) = t := ⟨_, rfl⟩
    rw [ht] at hstep htl ⊢
    repeat' first
     | with_reducible refine Rl.go (by constructor <;> decide) ?_
     | ((with_reducible first | refine hK _ ?_ | refine hK.1 ?_ | refine hK.2 ?_); clear hK K)
     | ((with_reducible refine condS hK (fun hg => ?_) fun hg => ?_) <;> clear hK K <;> (try simp only [hgW] at hg) <;> try (exfalso; omega))
     | ((first | ((with_reducible first | refine Rk.go k5_VsLNum (by constructor) ?_); intro K hK) | with_reducible refine Rr.go [] (by constructor) ?_ | (with_reducible refine guardP_split (fun hg => ?_) fun hg => ?_) <;> (try simp only [hg]) <;> (try simp only [hgW] at hg)) <;> simp -implicitDefEqProofs only [u8, hx, em, hlit, bytes_one, hn, go_sem, simprocAttr] <;> try (simp (disch := omega) only [wrW]; try simp -implicitDefEqProofs only [u8, hx, em, hlit, bytes_one, hn, go_sem, simprocAttr]))
     | with_reducible refine And.intro (by first | omega | (simp only [hgW]; omega)) ?_
     | (exfalso; omega)
    refine ⟨i + 1, ?_, by omega, by omega⟩
    rw [ei, hstep]
    simp -implicitDefEqProofs only [hn, go_sem, simprocAttr]
    try rfl
end Go.Proofs.YtfemncfhiihckaaDoor
