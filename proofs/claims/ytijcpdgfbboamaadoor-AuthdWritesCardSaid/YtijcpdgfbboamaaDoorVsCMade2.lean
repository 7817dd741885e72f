/- What Made comes to. -/
import Derived.Test.YtijcpdgfbboamaaDoorVsCMadeF
import Derived.Test.YtijcpdgfbboamaaDoorVsCRef3
import Derived.Test.YtijcpdgfbboamaaDoorVsCShare
open Go Go.VS
namespace Go.Proofs.YtijcpdgfbboamaaDoor
set_option linter.unusedVariables false
set_option linter.unusedSimpArgs false
set_option maxRecDepth 20000
set_option maxHeartbeats 4000000
theorem runesOf_i32 : ∀ ns : List Int, runesOf (ns.map (AV.int .i32)) = some ns
  | [] => rfl
  | n :: ns => by simp [runesOf, runesOf_i32 ns]
theorem take_min (l : List UInt8) : l.take (if (300 : Int) < (l.length : Int) then (300 : Int) else (l.length : Int)).toNat = l.take 300 := by
  split
  · rfl
  · rw [List.take_of_length_le (show l.length ≤ (l.length : Int).toNat by omega), List.take_of_length_le (by omega)]
def MadeOk (made : CI → CI) (d : Nat) : Prop := ∀ p, PlanD (d + 1) p → CallsP Tryd.prog 20 [p.av, .int .i64 (d : Int)] (made p).av
def k20_VsCMade : List Nat := [0,1,2,4,5,6,7,8,9,10,11,12,13,20,26,37,52,60,61,62,63,68,79,87,88,89,90,95,122,138]
def a20_14_VsCMade : List Nat := [0,1,0,0,8,28,60,127,255,511]
def o20_14_VsCMade : List Nat := [2,3,4,5,6,0,1,7,8,9]
def a20_24_VsCMade : List Nat := [0,0,2,6,15,31,63,127,63,511,1023,63,4095,8191]
def o20_24_VsCMade : List Nat := [0,1,2,3,4,5,6,7,8,9,10,11,12,13]
def a20_26_VsCMade : List Nat := [0,0,2,6,15,31,63,63,191,63,959,1983,4095,8191]
def o20_26_VsCMade : List Nat := [0,1,2,3,4,5,6,7,8,9,10,11,12,13]
def a20_27_VsCMade : List Nat := [0,1,0,0,15,0,0,96,0,256,0,1792,4064,8191,16383,32767]
def o20_27_VsCMade : List Nat := [5,6,7,8,9,10,11,12,0,1,2,3,4,13,14,15]
attribute [go_sem] k20_VsCMade a20_14_VsCMade o20_14_VsCMade a20_24_VsCMade o20_24_VsCMade a20_26_VsCMade o20_26_VsCMade a20_27_VsCMade o20_27_VsCMade
theorem f20_leaf (d : Nat) (hd : d ≤ 5) (p : CI) (hp : Plan0 p) (h : ¬ (0 < d ∧ (1 + p.k % 9 = 5 ∨ 1 + p.k % 9 = 6))) : CallsP Tryd.prog 20 [p.av, .int .i64 (d : Int)] (leafS p).av := by
  obtain ⟨h1, h2, h3, h4, h5⟩ := hp
  obtain ⟨pk, pn, pbn, pb, pkn, pks⟩ := p
  simp only [CI.k, CI.n, CI.b, CI.ks, CI.bn] at *
  obtain ⟨K, hK⟩ : ∃ K, 1 + pk % 9 = K := ⟨_, rfl⟩
  have eK : 1 + (pk : Int) % 9 = (K : Int) := by omega
  have e : leafS (.mk pk pn pbn pb pkn pks) = if 1 + pk % 9 ≤ 2 then .mk (1 + pk % 9) pn true [] true [] else if 1 + pk % 9 = 3 then .mk 3 0 pbn (pb.take 300) true [] else if 1 + pk % 9 = 4 then .mk 4 0 false (runesB (pb.take 300)) true [] else .mk (1 + pk % 9) 0 true [] true [] := rfl
  rw [e]
  clear e
  rw [hK] at h ⊢
  clear hK
  by_cases c2 : K ≤ 2
  · rw [if_pos c2, av_mk', av_mk']
    refine CallsP.introF Tryd.func20 rfl (by show 2 ≤ 156; decide) ?_
    rintro X hX
    have hn : X.n = 156 := hX
    unfold Tryd.f20
    dsimp only
    rw [entryB_0, entry2]
    repeat' first
     | with_reducible refine Rl.go (by constructor <;> decide) ?_
     | ((with_reducible first | refine hK _ ?_ | refine hK.1 ?_ | refine hK.2 ?_); clear hK K)
     | ((with_reducible refine condS hK (fun hg => ?_) fun hg => ?_) <;> clear hK K <;> (try simp only [hgW] at hg) <;> try (exfalso; omega))
     | ((first | ((with_reducible first | refine Rk.go k20_VsCMade (by constructor) ?_ | refine Rd.go 14 k20_VsCMade a20_14_VsCMade o20_14_VsCMade mixed (by constructor) (by kernel_rfl) (by kernel_rfl) ?_ | refine Rd.go 24 k20_VsCMade a20_24_VsCMade o20_24_VsCMade mixed (by constructor) (by kernel_rfl) (by kernel_rfl) ?_ | refine Rd.go 26 k20_VsCMade a20_26_VsCMade o20_26_VsCMade mixed (by constructor) (by kernel_rfl) (by kernel_rfl) ?_ | refine Rd.go 27 k20_VsCMade a20_27_VsCMade o20_27_VsCMade mixed (by constructor) (by kernel_rfl) (by kernel_rfl) ?_); intro K hK) | with_reducible refine Rr.go [] (by constructor) ?_ | (with_reducible refine guardP_split (fun hg => ?_) fun hg => ?_) <;> (try simp only [hg]) <;> (try simp only [hgW] at hg)) <;> simp -implicitDefEqProofs only [eK, Int.cast_ofNat_Int, hn, go_sem, simprocAttr] <;> try (simp (disch := omega) only [wrW]; try simp -implicitDefEqProofs only [eK, Int.cast_ofNat_Int, hn, go_sem, simprocAttr]))
     | with_reducible refine And.intro (by first | omega | (simp only [hgW]; omega)) ?_
     | (exfalso; omega)
  rw [if_neg c2]
  by_cases c3 : K = 3
  · subst c3
    rw [if_pos rfl, av_mk', av_mk']
    refine CallsP.introF Tryd.func20 rfl (by show 2 ≤ 156; decide) ?_
    rintro X hX
    have hn : X.n = 156 := hX
    unfold Tryd.f20
    dsimp only
    rw [entryB_0, entry2]
    repeat' first
     | with_reducible refine Rl.go (by constructor <;> decide) ?_
     | ((with_reducible first | refine hK _ ?_ | refine hK.1 ?_ | refine hK.2 ?_); clear hK K)
     | ((with_reducible refine condS hK (fun hg => ?_) fun hg => ?_) <;> clear hK K <;> (try simp only [hgW] at hg) <;> try (exfalso; omega))
     | ((first | ((with_reducible first | refine Rk.go k20_VsCMade (by constructor) ?_ | refine Rd.go 14 k20_VsCMade a20_14_VsCMade o20_14_VsCMade mixed (by constructor) (by kernel_rfl) (by kernel_rfl) ?_ | refine Rd.go 24 k20_VsCMade a20_24_VsCMade o20_24_VsCMade mixed (by constructor) (by kernel_rfl) (by kernel_rfl) ?_ | refine Rd.go 26 k20_VsCMade a20_26_VsCMade o20_26_VsCMade mixed (by constructor) (by kernel_rfl) (by kernel_rfl) ?_ | refine Rd.go 27 k20_VsCMade a20_27_VsCMade o20_27_VsCMade mixed (by constructor) (by kernel_rfl) (by kernel_rfl) ?_); intro K hK) | with_reducible refine Rr.go [] (by constructor) ?_ | (with_reducible refine guardP_split (fun hg => ?_) fun hg => ?_) <;> (try simp only [hg]) <;> (try simp only [hgW] at hg)) <;> simp -implicitDefEqProofs only [eK, take_min, Int.cast_ofNat_Int, hn, go_sem, simprocAttr] <;> try (simp (disch := omega) only [wrW]; try simp -implicitDefEqProofs only [eK, take_min, Int.cast_ofNat_Int, hn, go_sem, simprocAttr]))
     | with_reducible refine And.intro (by first | omega | (simp only [hgW]; omega)) ?_
     | (exfalso; omega)
  rw [if_neg c3]
  by_cases c4 : K = 4
  · subst c4
    rw [if_pos rfl, av_mk', av_mk']
    have er : (runesBytes (runesS (pb.take 300))).data.toList = runesB (pb.take 300) := rfl
    have ht : (pb.take 300).length ≤ 1000000 := by rw [List.length_take]; omega
    refine CallsP.introF Tryd.func20 rfl (by show 2 ≤ 156; decide) ?_
    rintro X hX
    have hn : X.n = 156 := hX
    unfold Tryd.f20
    dsimp only
    rw [entryB_0, entry2]
    repeat' first
     | with_reducible refine Rl.go (by constructor <;> decide) ?_
     | ((with_reducible first | refine hK _ ?_ | refine hK.1 ?_ | refine hK.2 ?_); clear hK K)
     | ((with_reducible refine condS hK (fun hg => ?_) fun hg => ?_) <;> clear hK K <;> (try simp only [hgW] at hg) <;> try (exfalso; omega))
     | ((first | ((with_reducible first | refine Rk.go k20_VsCMade (by constructor) ?_ | refine Rd.go 14 k20_VsCMade a20_14_VsCMade o20_14_VsCMade mixed (by constructor) (by kernel_rfl) (by kernel_rfl) ?_ | refine Rd.go 24 k20_VsCMade a20_24_VsCMade o20_24_VsCMade mixed (by constructor) (by kernel_rfl) (by kernel_rfl) ?_ | refine Rd.go 26 k20_VsCMade a20_26_VsCMade o20_26_VsCMade mixed (by constructor) (by kernel_rfl) (by kernel_rfl) ?_ | refine Rd.go 27 k20_VsCMade a20_27_VsCMade o20_27_VsCMade mixed (by constructor) (by kernel_rfl) (by kernel_rfl) ?_); intro K hK) | with_reducible refine Rr.go [] (by constructor) ?_ | (with_reducible refine guardP_split (fun hg => ?_) fun hg => ?_) <;> (try simp only [hg]) <;> (try simp only [hgW] at hg)) <;> simp -implicitDefEqProofs only [eK, take_min, runesOf_i32, er, Int.cast_ofNat_Int, hn, go_sem, simprocAttr] <;> try (simp (disch := omega) only [wrW]; try simp -implicitDefEqProofs only [eK, take_min, runesOf_i32, er, Int.cast_ofNat_Int, hn, go_sem, simprocAttr]))
     | with_reducible refine And.intro (by first | omega | (simp only [hgW]; omega)) ?_
     | (exfalso; omega)
  · rw [if_neg c4, av_mk', av_mk']
    refine CallsP.introF Tryd.func20 rfl (by show 2 ≤ 156; decide) ?_
    rintro X hX
    have hn : X.n = 156 := hX
    unfold Tryd.f20
    dsimp only
    rw [entryB_0, entry2]
    repeat' first
     | with_reducible refine Rl.go (by constructor <;> decide) ?_
     | ((with_reducible first | refine hK _ ?_ | refine hK.1 ?_ | refine hK.2 ?_); clear hK K)
     | ((with_reducible refine condS hK (fun hg => ?_) fun hg => ?_) <;> clear hK K <;> (try simp only [hgW] at hg) <;> try (exfalso; omega))
     | ((first | ((with_reducible first | refine Rk.go k20_VsCMade (by constructor) ?_ | refine Rd.go 14 k20_VsCMade a20_14_VsCMade o20_14_VsCMade mixed (by constructor) (by kernel_rfl) (by kernel_rfl) ?_ | refine Rd.go 24 k20_VsCMade a20_24_VsCMade o20_24_VsCMade mixed (by constructor) (by kernel_rfl) (by kernel_rfl) ?_ | refine Rd.go 26 k20_VsCMade a20_26_VsCMade o20_26_VsCMade mixed (by constructor) (by kernel_rfl) (by kernel_rfl) ?_ | refine Rd.go 27 k20_VsCMade a20_27_VsCMade o20_27_VsCMade mixed (by constructor) (by kernel_rfl) (by kernel_rfl) ?_); intro K hK) | with_reducible refine Rr.go [] (by constructor) ?_ | (with_reducible refine guardP_split (fun hg => ?_) fun hg => ?_) <;> (try simp only [hg]) <;> (try simp only [hgW] at hg)) <;> simp -implicitDefEqProofs only [eK, Int.cast_ofNat_Int, hn, go_sem, simprocAttr] <;> try (simp (disch := omega) only [wrW]; try simp -implicitDefEqProofs only [eK, Int.cast_ofNat_Int, hn, go_sem, simprocAttr]))
     | with_reducible refine And.intro (by first | omega | (simp only [hgW]; omega)) ?_
     | (exfalso; omega)
end Go.Proofs.YtijcpdgfbboamaaDoor
open Go Go.VS
namespace Go.Proofs.YtijcpdgfbboamaaDoor
set_option linter.unusedVariables false
set_option linter.unusedSimpArgs false
set_option maxRecDepth 20000
set_option maxHeartbeats 4000000
/-- An item whose kids are its caller's own. -/
def CI.own : CI → AV
  | .mk k n bn b kn ks => .agg [.int .u8 (k : Int), .int .u64 (n : Int), .sl none bn 1 (b.map u8), .sl (some ((3, 0), 0)) kn 4 (ks.map CI.av)]
theorem own_share {f : FuncId} {args : List AV} {x : CI} (h : CallsP Tryd.prog f args x.own) : CallsP Tryd.prog f args x.av := by
  obtain ⟨k, n, bn, b, kn, ks⟩ := x
  have h2 := share h (by rfl)
  rw [av_mk']
  exact h2
def k20_VsCMade2 : List Nat := [0,1,2,4,5,6,7,8,9,10,11,12,13,20,26,37,52,60,61,62,63,68,79,87,88,89,90,95,122,138]
def a20_14_VsCMade2 : List Nat := [0,1,0,0,8,28,60,127,255,511]
def o20_14_VsCMade2 : List Nat := [2,3,4,5,6,0,1,7,8,9]
def a20_24_VsCMade2 : List Nat := [0,0,2,6,15,31,63,127,63,511,1023,63,4095,8191]
def o20_24_VsCMade2 : List Nat := [0,1,2,3,4,5,6,7,8,9,10,11,12,13]
def a20_26_VsCMade2 : List Nat := [0,0,2,6,15,31,63,63,191,63,959,1983,4095,8191]
def o20_26_VsCMade2 : List Nat := [0,1,2,3,4,5,6,7,8,9,10,11,12,13]
def a20_27_VsCMade2 : List Nat := [0,1,0,0,15,0,0,96,0,256,0,1792,4064,8191,16383,32767]
def o20_27_VsCMade2 : List Nat := [5,6,7,8,9,10,11,12,0,1,2,3,4,13,14,15]
attribute [go_sem] k20_VsCMade2 a20_14_VsCMade2 o20_14_VsCMade2 a20_24_VsCMade2 o20_24_VsCMade2 a20_26_VsCMade2 o20_26_VsCMade2 a20_27_VsCMade2 o20_27_VsCMade2
theorem f20_arr (d : Nat) (hd : d ≤ 4) {made : CI → CI} (hm : MadeOk made d) (p : CI) (hp : PlanD (d + 2) p) (h : 1 + p.k % 9 = 5) :
    CallsP Tryd.prog 20 [p.av, .int .i64 ((d + 1 : Nat) : Int)] (CI.mk 5 0 true [] ((p.ks.take 8).map made).isEmpty ((p.ks.take 8).map made)).own := by
  obtain ⟨⟨h1, h2, h3, h4, h5⟩, hq⟩ := hp
  obtain ⟨pk, pn, pbn, pb, pkn, pks⟩ := p
  simp only [CI.k, CI.n, CI.b, CI.ks, CI.bn] at *
  have eK : 1 + (pk : Int) % 9 = 5 := by omega
  have hd1 : ((d + 1 : Nat) : Int) - 1 = (d : Int) := by omega
  have hw : IntKind.i64.wrap (d : Int) = (d : Int) := Go.IntWalk.i64_in _ (by omega)
  rw [av_mk', CI.own]
  refine CallsP.intro Tryd.func20 rfl (by show 2 ≤ 156; decide) ?_
  rintro X hX
  have hn : X.n = 156 := hX
  unfold Tryd.f20
  dsimp only
  rw [entry2]
  repeat' first
   | with_reducible refine Rl.go (by constructor <;> decide) ?_
   | ((with_reducible first | refine hK _ ?_ | refine hK.1 ?_ | refine hK.2 ?_); clear hK K)
   | ((with_reducible refine condS hK (fun hg => ?_) fun hg => ?_) <;> clear hK K <;> (try simp only [hgW] at hg) <;> try (exfalso; omega))
   | ((first | ((with_reducible first | refine Rk.go k20_VsCMade2 (by constructor) ?_ | refine Rd.go 14 k20_VsCMade2 a20_14_VsCMade2 o20_14_VsCMade2 mixed (by constructor) (by kernel_rfl) (by kernel_rfl) ?_ | refine Rd.go 24 k20_VsCMade2 a20_24_VsCMade2 o20_24_VsCMade2 mixed (by constructor) (by kernel_rfl) (by kernel_rfl) ?_ | refine Rd.go 26 k20_VsCMade2 a20_26_VsCMade2 o20_26_VsCMade2 mixed (by constructor) (by kernel_rfl) (by kernel_rfl) ?_ | refine Rd.go 27 k20_VsCMade2 a20_27_VsCMade2 o20_27_VsCMade2 mixed (by constructor) (by kernel_rfl) (by kernel_rfl) ?_); intro K hK) | with_reducible refine Rr.go [] (by constructor) ?_ | (with_reducible refine guardP_split (fun hg => ?_) fun hg => ?_) <;> (try simp only [hg]) <;> (try simp only [hgW] at hg)) <;> simp -implicitDefEqProofs only [eK, Int.cast_ofNat_Int, hn, go_sem, simprocAttr] <;> try (simp (disch := omega) only [wrW]; try simp -implicitDefEqProofs only [eK, Int.cast_ofNat_Int, hn, go_sem, simprocAttr]))
   | with_reducible refine And.intro (by first | omega | (simp only [hgW]; omega)) ?_
   | (exfalso; omega)
  refine AWP.adoptB 6 3 (0, 999) 0 4 (by rfl) (by rfl) ?_
  refine AWP.loopX [1, 4, 6, 60, 61, 62] [2, 8] (fun k : Nat => St.mk (lk [(1, .int .i64 ((d + 1 : Nat) : Int)), (4, .ptr 4 0), (6, .ptr 6 0), (60, .sl none pkn 4 (pks.map CI.av)), (61, .int .i64 (pks.length : Int)), (62, .int .i64 (k : Int))])
      (lkB [(4, [.int .u8 0, .int .u64 0, .sl none true 1 [], .sl none true 4 []]), (6, [.int .u8 5, .int .u64 0, .sl none true 1 [], .sl (some ((0, 999), 0)) (((pks.take 8).take k).map made).isEmpty 4 ((((pks.take 8).take k).map made).map CI.av)])]) (hasS []) (hasS []) (hasN []) (lkR []))
    (fun k => k ≤ pks.length) (fun k => pks.length - k) 0 ?_ (Nat.zero_le _) ?_
  · simp -implicitDefEqProofs only [Int.cast_ofNat_Int, hn, go_sem, simprocAttr]
    try rfl
  rintro k hk
  by_cases hkn : k = pks.length
  · have e : (pks.take 8).take k = pks.take 8 := List.take_of_length_le (by rw [List.length_take]; omega)
    rw [e]
    subst hkn
    repeat' first
     | with_reducible refine Rl.go (by constructor <;> decide) ?_
     | ((with_reducible first | refine hK _ ?_ | refine hK.1 ?_ | refine hK.2 ?_); clear hK K)
     | ((with_reducible refine condS hK (fun hg => ?_) fun hg => ?_) <;> clear hK K <;> (try simp only [hgW] at hg) <;> try (exfalso; omega))
     | ((first | ((with_reducible first | refine Rk.go k20_VsCMade2 (by constructor) ?_ | refine Rd.go 14 k20_VsCMade2 a20_14_VsCMade2 o20_14_VsCMade2 mixed (by constructor) (by kernel_rfl) (by kernel_rfl) ?_ | refine Rd.go 24 k20_VsCMade2 a20_24_VsCMade2 o20_24_VsCMade2 mixed (by constructor) (by kernel_rfl) (by kernel_rfl) ?_ | refine Rd.go 26 k20_VsCMade2 a20_26_VsCMade2 o20_26_VsCMade2 mixed (by constructor) (by kernel_rfl) (by kernel_rfl) ?_ | refine Rd.go 27 k20_VsCMade2 a20_27_VsCMade2 o20_27_VsCMade2 mixed (by constructor) (by kernel_rfl) (by kernel_rfl) ?_); intro K hK) | with_reducible refine Rr.go [] (by constructor) ?_ | (with_reducible refine guardP_split (fun hg => ?_) fun hg => ?_) <;> (try simp only [hg]) <;> (try simp only [hgW] at hg)) <;> simp -implicitDefEqProofs only [Int.cast_ofNat_Int, hn, go_sem, simprocAttr] <;> try (simp (disch := omega) only [wrW]; try simp -implicitDefEqProofs only [Int.cast_ofNat_Int, hn, go_sem, simprocAttr]))
     | with_reducible refine And.intro (by first | omega | (simp only [hgW]; omega)) ?_
     | (exfalso; omega)
  obtain ⟨y, hy⟩ : ∃ y, pks.getD k default = y := ⟨_, rfl⟩
  have hlt : k < pks.length := by omega
  have hy' : pks[k]? = some y := by
    rw [← hy, List.getD_eq_getElem?_getD, List.getElem?_eq_getElem hlt]; rfl
  have c20 := hm y (hq y (List.mem_of_getElem? hy'))
  have e2 : (k : Int) + 1 = ((k + 1 : Nat) : Int) := by omega
  by_cases h8 : k < 8
  · have e3 : ((pks.take 8).take (k + 1)).map made = ((pks.take 8).take k).map made ++ [made y] := by
      rw [List.take_add_one, List.getElem?_take, if_pos h8, hy', List.map_append]; rfl
    have hol : (((pks.take 8).take k).map made).length ≤ 8 := by rw [List.length_map, List.length_take, List.length_take]; omega
    generalize ((pks.take 8).take k).map made = out at *
    generalize hz : made y = z at *
    obtain ⟨zk, zn, zbn, zb, zkn, zks⟩ := z
    obtain ⟨yk, yn, ybn, yb, ykn, yks⟩ := y
    simp only [av_mk'] at c20
    repeat' first
     | with_reducible refine Rl.go (by constructor <;> decide) ?_
     | ((with_reducible first | refine hK _ ?_ | refine hK.1 ?_ | refine hK.2 ?_); clear hK K)
     | ((with_reducible refine condS hK (fun hg => ?_) fun hg => ?_) <;> clear hK K <;> (try simp only [hgW] at hg) <;> try (exfalso; omega))
     | ((first | ((with_reducible first | refine Rk.go k20_VsCMade2 (by constructor) ?_ | refine Rd.go 14 k20_VsCMade2 a20_14_VsCMade2 o20_14_VsCMade2 mixed (by constructor) (by kernel_rfl) (by kernel_rfl) ?_ | refine Rd.go 24 k20_VsCMade2 a20_24_VsCMade2 o20_24_VsCMade2 mixed (by constructor) (by kernel_rfl) (by kernel_rfl) ?_ | refine Rd.go 26 k20_VsCMade2 a20_26_VsCMade2 o20_26_VsCMade2 mixed (by constructor) (by kernel_rfl) (by kernel_rfl) ?_ | refine Rd.go 27 k20_VsCMade2 a20_27_VsCMade2 o20_27_VsCMade2 mixed (by constructor) (by kernel_rfl) (by kernel_rfl) ?_); intro K hK) | with_reducible refine Rr.go [] (by constructor) ?_ | (with_reducible refine guardP_split (fun hg => ?_) fun hg => ?_) <;> (try simp only [hg]) <;> (try simp only [hgW] at hg) | refine Rc.go c20 (by constructor) ?_) <;> simp -implicitDefEqProofs only [hy, av_mk', hd1, hw, Int.cast_ofNat_Int, hn, go_sem, simprocAttr] <;> try (simp (disch := omega) only [wrW]; try simp -implicitDefEqProofs only [hy, av_mk', hd1, hw, Int.cast_ofNat_Int, hn, go_sem, simprocAttr]))
     | with_reducible refine And.intro (by first | omega | (simp only [hgW]; omega)) ?_
     | (exfalso; omega)
    refine ⟨k + 1, ?_, by omega, by omega⟩
    have e4 : out.map CI.av ++ [AV.agg [.int .u8 (zk : Int), .int .u64 (zn : Int), .sl none zbn 1 (zb.map u8), .sl none zkn 4 (zks.map CI.av)]] = (out ++ [CI.mk zk zn zbn zb zkn zks]).map CI.av := by
      rw [List.map_append, List.map_cons, List.map_nil, av_mk']
    have e5 : (out ++ [CI.mk zk zn zbn zb zkn zks]).isEmpty = false := by simp
    rw [e2, e3, e4]
    simp -implicitDefEqProofs only [e5, Int.cast_ofNat_Int, hn, go_sem, simprocAttr]
    try rfl
  · have e3 : (pks.take 8).take (k + 1) = (pks.take 8).take k := by
      rw [List.take_of_length_le (l := pks.take 8) (by rw [List.length_take]; omega), List.take_of_length_le (l := pks.take 8) (by rw [List.length_take]; omega)]
    obtain ⟨yk, yn, ybn, yb, ykn, yks⟩ := y
    repeat' first
     | with_reducible refine Rl.go (by constructor <;> decide) ?_
     | ((with_reducible first | refine hK _ ?_ | refine hK.1 ?_ | refine hK.2 ?_); clear hK K)
     | ((with_reducible refine condS hK (fun hg => ?_) fun hg => ?_) <;> clear hK K <;> (try simp only [hgW] at hg) <;> try (exfalso; omega))
     | ((first | ((with_reducible first | refine Rk.go k20_VsCMade2 (by constructor) ?_ | refine Rd.go 14 k20_VsCMade2 a20_14_VsCMade2 o20_14_VsCMade2 mixed (by constructor) (by kernel_rfl) (by kernel_rfl) ?_ | refine Rd.go 24 k20_VsCMade2 a20_24_VsCMade2 o20_24_VsCMade2 mixed (by constructor) (by kernel_rfl) (by kernel_rfl) ?_ | refine Rd.go 26 k20_VsCMade2 a20_26_VsCMade2 o20_26_VsCMade2 mixed (by constructor) (by kernel_rfl) (by kernel_rfl) ?_ | refine Rd.go 27 k20_VsCMade2 a20_27_VsCMade2 o20_27_VsCMade2 mixed (by constructor) (by kernel_rfl) (by kernel_rfl) ?_); intro K hK) | with_reducible refine Rr.go [] (by constructor) ?_ | (with_reducible refine guardP_split (fun hg => ?_) fun hg => ?_) <;> (try simp only [hg]) <;> (try simp only [hgW] at hg)) <;> simp -implicitDefEqProofs only [hy, av_mk', hd1, hw, Int.cast_ofNat_Int, hn, go_sem, simprocAttr] <;> try (simp (disch := omega) only [wrW]; try simp -implicitDefEqProofs only [hy, av_mk', hd1, hw, Int.cast_ofNat_Int, hn, go_sem, simprocAttr]))
     | with_reducible refine And.intro (by first | omega | (simp only [hgW]; omega)) ?_
     | (exfalso; omega)
    refine ⟨k + 1, ?_, by omega, by omega⟩
    rw [e2, e3]
    simp -implicitDefEqProofs only [Int.cast_ofNat_Int, hn, go_sem, simprocAttr]
    try rfl
theorem f20_map (d : Nat) (hd : d ≤ 4) {made : CI → CI} (hm : MadeOk made d) (p : CI) (hp : PlanD (d + 2) p) (h : 1 + p.k % 9 = 6) :
    CallsP Tryd.prog 20 [p.av, .int .i64 ((d + 1 : Nat) : Int)] (CI.mk 6 0 true [] (foldS made (p.ks.take 8) []).isEmpty (foldS made (p.ks.take 8) [])).own := by
  obtain ⟨⟨h1, h2, h3, h4, h5⟩, hq⟩ := hp
  obtain ⟨pk, pn, pbn, pb, pkn, pks⟩ := p
  simp only [CI.k, CI.n, CI.b, CI.ks, CI.bn] at *
  have eK : 1 + (pk : Int) % 9 = 6 := by omega
  have hd1 : ((d + 1 : Nat) : Int) - 1 = (d : Int) := by omega
  have hw : IntKind.i64.wrap (d : Int) = (d : Int) := Go.IntWalk.i64_in _ (by omega)
  obtain ⟨R, hR⟩ : ∃ R, foldS made (pks.take 8) [] = R := ⟨_, rfl⟩
  rw [hR, av_mk', CI.own]
  refine CallsP.intro Tryd.func20 rfl (by show 2 ≤ 156; decide) ?_
  rintro X hX
  have hn : X.n = 156 := hX
  unfold Tryd.f20
  dsimp only
  rw [entry2]
  repeat' first
   | with_reducible refine Rl.go (by constructor <;> decide) ?_
   | ((with_reducible first | refine hK _ ?_ | refine hK.1 ?_ | refine hK.2 ?_); clear hK K)
   | ((with_reducible refine condS hK (fun hg => ?_) fun hg => ?_) <;> clear hK K <;> (try simp only [hgW] at hg) <;> try (exfalso; omega))
   | ((first | ((with_reducible first | refine Rk.go k20_VsCMade2 (by constructor) ?_ | refine Rd.go 14 k20_VsCMade2 a20_14_VsCMade2 o20_14_VsCMade2 mixed (by constructor) (by kernel_rfl) (by kernel_rfl) ?_ | refine Rd.go 24 k20_VsCMade2 a20_24_VsCMade2 o20_24_VsCMade2 mixed (by constructor) (by kernel_rfl) (by kernel_rfl) ?_ | refine Rd.go 26 k20_VsCMade2 a20_26_VsCMade2 o20_26_VsCMade2 mixed (by constructor) (by kernel_rfl) (by kernel_rfl) ?_ | refine Rd.go 27 k20_VsCMade2 a20_27_VsCMade2 o20_27_VsCMade2 mixed (by constructor) (by kernel_rfl) (by kernel_rfl) ?_); intro K hK) | with_reducible refine Rr.go [] (by constructor) ?_ | (with_reducible refine guardP_split (fun hg => ?_) fun hg => ?_) <;> (try simp only [hg]) <;> (try simp only [hgW] at hg)) <;> simp -implicitDefEqProofs only [eK, Int.cast_ofNat_Int, hn, go_sem, simprocAttr] <;> try (simp (disch := omega) only [wrW]; try simp -implicitDefEqProofs only [eK, Int.cast_ofNat_Int, hn, go_sem, simprocAttr]))
   | with_reducible refine And.intro (by first | omega | (simp only [hgW]; omega)) ?_
   | (exfalso; omega)
  refine AWP.adoptB 6 3 (0, 999) 0 4 (by rfl) (by rfl) ?_
  refine AWP.loopX [1, 4, 6, 87, 88, 89] [2, 10, 11, 12] (fun x : Nat × List CI => St.mk (lk [(1, .int .i64 ((d + 1 : Nat) : Int)), (4, .ptr 4 0), (6, .ptr 6 0), (87, .sl none pkn 4 (pks.map CI.av)), (88, .int .i64 (pks.length : Int)), (89, .int .i64 (x.1 : Int))])
      (lkB [(4, [.int .u8 0, .int .u64 0, .sl none true 1 [], .sl none true 4 []]), (6, [.int .u8 6, .int .u64 0, .sl none true 1 [], .sl (some ((0, 999), 0)) x.2.isEmpty 4 (x.2.map CI.av)])]) (hasS []) (hasS []) (hasN []) (lkR []))
    (fun x => x.1 ≤ pks.length ∧ x.2.length % 2 = 0 ∧ x.2.length ≤ 2 * x.1 ∧ x.1 ≤ 8 ∧ foldS made ((pks.take 8).drop x.1) x.2 = R) (fun x => pks.length - x.1) (0, []) ?_ ⟨Nat.zero_le _, rfl, Nat.le_refl _, Nat.zero_le _, hR⟩ ?_
  · simp -implicitDefEqProofs only [Int.cast_ofNat_Int, hn, go_sem, simprocAttr]
    try rfl
  rintro ⟨k, l⟩ ⟨hk, hl2, hlk, hl16, hf⟩
  simp only at hk hl2 hlk hl16 hf
  by_cases hkn : k = pks.length
  · rw [List.drop_of_length_le (by rw [List.length_take]; omega)] at hf
    simp only [foldS] at hf
    subst hf
    subst hkn
    repeat' first
     | with_reducible refine Rl.go (by constructor <;> decide) ?_
     | ((with_reducible first | refine hK _ ?_ | refine hK.1 ?_ | refine hK.2 ?_); clear hK K)
     | ((with_reducible refine condS hK (fun hg => ?_) fun hg => ?_) <;> clear hK K <;> (try simp only [hgW] at hg) <;> try (exfalso; omega))
     | ((first | ((with_reducible first | refine Rk.go k20_VsCMade2 (by constructor) ?_ | refine Rd.go 14 k20_VsCMade2 a20_14_VsCMade2 o20_14_VsCMade2 mixed (by constructor) (by kernel_rfl) (by kernel_rfl) ?_ | refine Rd.go 24 k20_VsCMade2 a20_24_VsCMade2 o20_24_VsCMade2 mixed (by constructor) (by kernel_rfl) (by kernel_rfl) ?_ | refine Rd.go 26 k20_VsCMade2 a20_26_VsCMade2 o20_26_VsCMade2 mixed (by constructor) (by kernel_rfl) (by kernel_rfl) ?_ | refine Rd.go 27 k20_VsCMade2 a20_27_VsCMade2 o20_27_VsCMade2 mixed (by constructor) (by kernel_rfl) (by kernel_rfl) ?_); intro K hK) | with_reducible refine Rr.go [] (by constructor) ?_ | (with_reducible refine guardP_split (fun hg => ?_) fun hg => ?_) <;> (try simp only [hg]) <;> (try simp only [hgW] at hg)) <;> simp -implicitDefEqProofs only [Int.cast_ofNat_Int, hn, go_sem, simprocAttr] <;> try (simp (disch := omega) only [wrW]; try simp -implicitDefEqProofs only [Int.cast_ofNat_Int, hn, go_sem, simprocAttr]))
     | with_reducible refine And.intro (by first | omega | (simp only [hgW]; omega)) ?_
     | (exfalso; omega)
  obtain ⟨y, hy⟩ : ∃ y, pks.getD k default = y := ⟨_, rfl⟩
  have hlt : k < pks.length := by omega
  have hy' : pks[k]? = some y := by
    rw [← hy, List.getD_eq_getElem?_getD, List.getElem?_eq_getElem hlt]; rfl
  by_cases h8 : 8 ≤ k
  · rw [List.drop_of_length_le (by rw [List.length_take]; omega)] at hf
    simp only [foldS] at hf
    subst hf
    obtain ⟨yk, yn, ybn, yb, ykn, yks⟩ := y
    repeat' first
     | with_reducible refine Rl.go (by constructor <;> decide) ?_
     | ((with_reducible first | refine hK _ ?_ | refine hK.1 ?_ | refine hK.2 ?_); clear hK K)
     | ((with_reducible refine condS hK (fun hg => ?_) fun hg => ?_) <;> clear hK K <;> (try simp only [hgW] at hg) <;> try (exfalso; omega))
     | ((first | ((with_reducible first | refine Rk.go k20_VsCMade2 (by constructor) ?_ | refine Rd.go 14 k20_VsCMade2 a20_14_VsCMade2 o20_14_VsCMade2 mixed (by constructor) (by kernel_rfl) (by kernel_rfl) ?_ | refine Rd.go 24 k20_VsCMade2 a20_24_VsCMade2 o20_24_VsCMade2 mixed (by constructor) (by kernel_rfl) (by kernel_rfl) ?_ | refine Rd.go 26 k20_VsCMade2 a20_26_VsCMade2 o20_26_VsCMade2 mixed (by constructor) (by kernel_rfl) (by kernel_rfl) ?_ | refine Rd.go 27 k20_VsCMade2 a20_27_VsCMade2 o20_27_VsCMade2 mixed (by constructor) (by kernel_rfl) (by kernel_rfl) ?_); intro K hK) | with_reducible refine Rr.go [] (by constructor) ?_ | (with_reducible refine guardP_split (fun hg => ?_) fun hg => ?_) <;> (try simp only [hg]) <;> (try simp only [hgW] at hg)) <;> simp -implicitDefEqProofs only [hy, av_mk', Int.cast_ofNat_Int, hn, go_sem, simprocAttr] <;> try (simp (disch := omega) only [wrW]; try simp -implicitDefEqProofs only [hy, av_mk', Int.cast_ofNat_Int, hn, go_sem, simprocAttr]))
     | with_reducible refine And.intro (by first | omega | (simp only [hgW]; omega)) ?_
     | (exfalso; omega)
  have hql := hq y (List.mem_of_getElem? hy')
  have c20 := hm y hql
  have hyp : Plan0 y := by cases d with
    | zero => exact hql.1
    | succ d => exact hql.1
  have hdr : (pks.take 8).drop k = y :: (pks.take 8).drop (k + 1) := by
    have h9 : (pks.take 8)[k]? = some y := by rw [List.getElem?_take, if_pos (by omega), hy']
    obtain ⟨hlt2, h10⟩ := List.getElem?_eq_some_iff.1 h9
    rw [List.drop_eq_getElem_cons hlt2, h10]
  rw [hdr] at hf
  simp only [foldS] at hf
  have ck := f20_leaf 0 (by omega) (keyP y) (by
    obtain ⟨g1, g2, g3, g4, g5⟩ := hyp
    exact ⟨by show y.k % 4 < 256; omega, g2, g3, by show 0 ≤ _; exact Nat.zero_le _, g5⟩) (fun hh => by cases hh.1)
  have hev := insS_even (leafS (keyP y)) (made y) l hl2
  obtain ⟨I, hI⟩ : ∃ I, insAt l (leafS (keyP y)) (l.length + 1) 0 = I := ⟨_, rfl⟩
  have hIl := insAt_le l (leafS (keyP y)) hl2 (l.length + 1) 0 rfl (Nat.zero_le _)
  have hI2 := insAt_even l (leafS (keyP y)) (l.length + 1) 0 rfl
  have hins : insS (leafS (keyP y)) (made y) l = if I = l.length ∨ aheadS (leafS (keyP y)) (l.getD I default) = true then l.take I ++ leafS (keyP y) :: made y :: l.drop I else l := by unfold insS; rw [hI]
  rw [hI] at hIl hI2
  have e2 : (k : Int) + 1 = ((k + 1 : Nat) : Int) := by omega
  generalize hz : made y = z at *
  generalize hke : leafS (keyP y) = key at *
  obtain ⟨zk, zn, zbn, zb, zkn, zks⟩ := z
  obtain ⟨kk, kn, kbn, kb, kkn, kks⟩ := key
  obtain ⟨yk, yn, ybn, yb, ykn, yks⟩ := y
  have ekp : (keyP (.mk yk yn ybn yb ykn yks)).av = .agg [.int .u8 ((yk % 4 : Nat) : Int), .int .u64 (yn : Int), .sl none ybn 1 (yb.map u8), .sl none true 4 []] := by
    unfold keyP; rw [av_mk']; rfl
  have ey4 : (yk : Int) % 4 = ((yk % 4 : Nat) : Int) := by omega
  rw [ekp] at ck
  simp only [av_mk'] at c20 ck
  repeat' first
   | with_reducible refine Rl.go (by constructor <;> decide) ?_
   | ((with_reducible first | refine hK _ ?_ | refine hK.1 ?_ | refine hK.2 ?_); clear hK K)
   | ((with_reducible refine condS hK (fun hg => ?_) fun hg => ?_) <;> clear hK K <;> (try simp only [hgW] at hg) <;> try (exfalso; omega))
   | ((first | ((with_reducible first | refine Rk.go k20_VsCMade2 (by constructor) ?_ | refine Rd.go 14 k20_VsCMade2 a20_14_VsCMade2 o20_14_VsCMade2 mixed (by constructor) (by kernel_rfl) (by kernel_rfl) ?_ | refine Rd.go 24 k20_VsCMade2 a20_24_VsCMade2 o20_24_VsCMade2 mixed (by constructor) (by kernel_rfl) (by kernel_rfl) ?_ | refine Rd.go 26 k20_VsCMade2 a20_26_VsCMade2 o20_26_VsCMade2 mixed (by constructor) (by kernel_rfl) (by kernel_rfl) ?_ | refine Rd.go 27 k20_VsCMade2 a20_27_VsCMade2 o20_27_VsCMade2 mixed (by constructor) (by kernel_rfl) (by kernel_rfl) ?_); intro K hK) | with_reducible refine Rr.go [] (by constructor) ?_ | (with_reducible refine guardP_split (fun hg => ?_) fun hg => ?_) <;> (try simp only [hg]) <;> (try simp only [hgW] at hg) | refine Rc.go c20 (by constructor) ?_ | refine Rc.go ck (by constructor) ?_) <;> simp -implicitDefEqProofs only [hy, av_mk', hd1, hw, ey4, Int.cast_ofNat_Int, hn, go_sem, simprocAttr] <;> try (simp (disch := omega) only [wrW]; try simp -implicitDefEqProofs only [hy, av_mk', hd1, hw, ey4, Int.cast_ofNat_Int, hn, go_sem, simprocAttr]))
   | with_reducible refine And.intro (by first | omega | (simp only [hgW]; omega)) ?_
   | (exfalso; omega)
  refine AWP.loopX [1, 4, 6, 9, 11, 12, 13, 87, 88, 89] [10] (fun x : Nat × Nat => St.mk (lk [(1, .int .i64 ((d + 1 : Nat) : Int)), (4, .ptr 4 0), (6, .ptr 6 0), (9, .int .i64 (k : Int)), (11, .ptr 11 0), (12, .ptr 12 0), (13, .int .i64 (x.2 : Int)), (87, .sl none pkn 4 (pks.map CI.av)), (88, .int .i64 (pks.length : Int)), (89, .int .i64 (k : Int))])
      (lkB [(4, [.int .u8 0, .int .u64 0, .sl none true 1 [], .sl none true 4 []]), (6, [.int .u8 6, .int .u64 0, .sl none true 1 [], .sl (some ((0, 999), 0)) l.isEmpty 4 (l.map CI.av)]),
        (11, [.int .u8 (kk : Int), .int .u64 (kn : Int), .sl none kbn 1 (kb.map u8), .sl none kkn 4 (kks.map CI.av)]), (12, [.int .u8 (zk : Int), .int .u64 (zn : Int), .sl none zbn 1 (zb.map u8), .sl none zkn 4 (zks.map CI.av)])]) (hasS []) (hasS []) (hasN []) (lkR []))
    (fun x => insAt l (.mk kk kn kbn kb kkn kks) x.1 x.2 = I ∧ x.2 % 2 = 0 ∧ x.2 ≤ l.length ∧ l.length < x.2 + 2 * x.1) (fun x => x.1) (l.length + 1, 0) ?_ ⟨hI, rfl, Nat.zero_le _, by simp only; omega⟩ ?_
  · simp -implicitDefEqProofs only [Int.cast_ofNat_Int, hn, go_sem, simprocAttr]
    try rfl
  rintro ⟨f, i⟩ ⟨q1, q2, q3, q4⟩
  simp only at q1 q2 q3 q4
  cases f with
  | zero => exfalso; omega
  | succ f =>
    simp only [insAt] at q1
    obtain ⟨o, ho⟩ : ∃ o, l.getD i default = o := ⟨_, rfl⟩
    have c36 := f36_ok o (.mk kk kn kbn kb kkn kks)
    rw [ho] at q1
    by_cases c : i < l.length ∧ aheadS o (.mk kk kn kbn kb kkn kks) = true
    · rw [if_pos c] at q1
      rw [c.2] at c36
      obtain ⟨c1, c2⟩ := c
      obtain ⟨ok, on, obn, ob, okn, oks⟩ := o
      simp only [av_mk'] at c36
      repeat' first
       | with_reducible refine Rl.go (by constructor <;> decide) ?_
       | ((with_reducible first | refine hK _ ?_ | refine hK.1 ?_ | refine hK.2 ?_); clear hK K)
       | ((with_reducible refine condS hK (fun hg => ?_) fun hg => ?_) <;> clear hK K <;> (try simp only [hgW] at hg) <;> try (exfalso; omega))
       | ((first | ((with_reducible first | refine Rk.go k20_VsCMade2 (by constructor) ?_ | refine Rd.go 14 k20_VsCMade2 a20_14_VsCMade2 o20_14_VsCMade2 mixed (by constructor) (by kernel_rfl) (by kernel_rfl) ?_ | refine Rd.go 24 k20_VsCMade2 a20_24_VsCMade2 o20_24_VsCMade2 mixed (by constructor) (by kernel_rfl) (by kernel_rfl) ?_ | refine Rd.go 26 k20_VsCMade2 a20_26_VsCMade2 o20_26_VsCMade2 mixed (by constructor) (by kernel_rfl) (by kernel_rfl) ?_ | refine Rd.go 27 k20_VsCMade2 a20_27_VsCMade2 o20_27_VsCMade2 mixed (by constructor) (by kernel_rfl) (by kernel_rfl) ?_); intro K hK) | with_reducible refine Rr.go [] (by constructor) ?_ | (with_reducible refine guardP_split (fun hg => ?_) fun hg => ?_) <;> (try simp only [hg]) <;> (try simp only [hgW] at hg) | refine Rc.go c36 (by constructor) ?_) <;> simp -implicitDefEqProofs only [ho, av_mk', Int.cast_ofNat_Int, hn, go_sem, simprocAttr] <;> try (simp (disch := omega) only [wrW]; try simp -implicitDefEqProofs only [ho, av_mk', Int.cast_ofNat_Int, hn, go_sem, simprocAttr]))
       | with_reducible refine And.intro (by first | omega | (simp only [hgW]; omega)) ?_
       | (exfalso; omega)
      refine ⟨(f, i + 2), ?_, ⟨q1, by simp only; omega, by simp only; omega, by simp only; omega⟩, by simp only; omega⟩
      have e5 : (i : Int) + 2 = ((i + 2 : Nat) : Int) := by omega
      rw [e5]
      simp -implicitDefEqProofs only [Int.cast_ofNat_Int, hn, go_sem, simprocAttr]
      try rfl
    · rw [if_neg c] at q1
      subst q1
      rw [ho] at hins
      have c36b := f36_ok (.mk kk kn kbn kb kkn kks) o
      have e7 : (l.take i).map CI.av ++ (AV.agg [.int .u8 (kk : Int), .int .u64 (kn : Int), .sl none kbn 1 (kb.map u8), .sl none kkn 4 (kks.map CI.av)] :: AV.agg [.int .u8 (zk : Int), .int .u64 (zn : Int), .sl none zbn 1 (zb.map u8), .sl none zkn 4 (zks.map CI.av)] :: (l.drop i).map CI.av) =
          (l.take i ++ .mk kk kn kbn kb kkn kks :: .mk zk zn zbn zb zkn zks :: l.drop i).map CI.av := by
        rw [List.map_append, List.map_cons, List.map_cons, av_mk', av_mk']
      have e8 : (l.take i ++ .mk kk kn kbn kb kkn kks :: .mk zk zn zbn zb zkn zks :: l.drop i).isEmpty = false := by simp
      by_cases hil : i < l.length
      · have ha : aheadS o (.mk kk kn kbn kb kkn kks) = false := by
          cases e : aheadS o (.mk kk kn kbn kb kkn kks) with
          | false => rfl
          | true => exact absurd ⟨hil, e⟩ c
        rw [ha] at c36
        by_cases cc : aheadS (.mk kk kn kbn kb kkn kks) o = true
        · rw [if_pos (Or.inr cc)] at hins
          rw [hins] at hf hev
          rw [cc] at c36b
          obtain ⟨ok, on, obn, ob, okn, oks⟩ := o
          simp only [av_mk'] at c36 c36b
          repeat' first
           | with_reducible refine Rl.go (by constructor <;> decide) ?_
           | ((with_reducible first | refine hK _ ?_ | refine hK.1 ?_ | refine hK.2 ?_); clear hK K)
           | ((with_reducible refine condS hK (fun hg => ?_) fun hg => ?_) <;> clear hK K <;> (try simp only [hgW] at hg) <;> try (exfalso; omega))
           | ((first | ((with_reducible first | refine Rk.go k20_VsCMade2 (by constructor) ?_ | refine Rd.go 14 k20_VsCMade2 a20_14_VsCMade2 o20_14_VsCMade2 mixed (by constructor) (by kernel_rfl) (by kernel_rfl) ?_ | refine Rd.go 24 k20_VsCMade2 a20_24_VsCMade2 o20_24_VsCMade2 mixed (by constructor) (by kernel_rfl) (by kernel_rfl) ?_ | refine Rd.go 26 k20_VsCMade2 a20_26_VsCMade2 o20_26_VsCMade2 mixed (by constructor) (by kernel_rfl) (by kernel_rfl) ?_ | refine Rd.go 27 k20_VsCMade2 a20_27_VsCMade2 o20_27_VsCMade2 mixed (by constructor) (by kernel_rfl) (by kernel_rfl) ?_); intro K hK) | with_reducible refine Rr.go [] (by constructor) ?_ | (with_reducible refine guardP_split (fun hg => ?_) fun hg => ?_) <;> (try simp only [hg]) <;> (try simp only [hgW] at hg) | refine Rc.go c36 (by constructor) ?_ | refine Rc.go c36b (by constructor) ?_) <;> simp -implicitDefEqProofs only [ho, av_mk', Int.cast_ofNat_Int, hn, go_sem, simprocAttr] <;> try (simp (disch := omega) only [wrW]; try simp -implicitDefEqProofs only [ho, av_mk', Int.cast_ofNat_Int, hn, go_sem, simprocAttr]))
           | with_reducible refine And.intro (by first | omega | (simp only [hgW]; omega)) ?_
           | (exfalso; omega)
          refine ⟨(k + 1, _), ?_, ⟨by simp only; omega, hev.1, by simp only; omega, by simp only; omega, hf⟩, by simp only; omega⟩
          rw [e2]
          simp -implicitDefEqProofs only [e7, e8, Int.cast_ofNat_Int, hn, go_sem, simprocAttr]
          try rfl
        · rw [if_neg (by rintro (h | h); exact absurd h (by omega); exact cc h)] at hins
          rw [hins] at hf
          have cc' : aheadS (.mk kk kn kbn kb kkn kks) o = false := by simpa using cc
          rw [cc'] at c36b
          obtain ⟨ok, on, obn, ob, okn, oks⟩ := o
          simp only [av_mk'] at c36 c36b
          repeat' first
           | with_reducible refine Rl.go (by constructor <;> decide) ?_
           | ((with_reducible first | refine hK _ ?_ | refine hK.1 ?_ | refine hK.2 ?_); clear hK K)
           | ((with_reducible refine condS hK (fun hg => ?_) fun hg => ?_) <;> clear hK K <;> (try simp only [hgW] at hg) <;> try (exfalso; omega))
           | ((first | ((with_reducible first | refine Rk.go k20_VsCMade2 (by constructor) ?_ | refine Rd.go 14 k20_VsCMade2 a20_14_VsCMade2 o20_14_VsCMade2 mixed (by constructor) (by kernel_rfl) (by kernel_rfl) ?_ | refine Rd.go 24 k20_VsCMade2 a20_24_VsCMade2 o20_24_VsCMade2 mixed (by constructor) (by kernel_rfl) (by kernel_rfl) ?_ | refine Rd.go 26 k20_VsCMade2 a20_26_VsCMade2 o20_26_VsCMade2 mixed (by constructor) (by kernel_rfl) (by kernel_rfl) ?_ | refine Rd.go 27 k20_VsCMade2 a20_27_VsCMade2 o20_27_VsCMade2 mixed (by constructor) (by kernel_rfl) (by kernel_rfl) ?_); intro K hK) | with_reducible refine Rr.go [] (by constructor) ?_ | (with_reducible refine guardP_split (fun hg => ?_) fun hg => ?_) <;> (try simp only [hg]) <;> (try simp only [hgW] at hg) | refine Rc.go c36 (by constructor) ?_ | refine Rc.go c36b (by constructor) ?_) <;> simp -implicitDefEqProofs only [ho, av_mk', Int.cast_ofNat_Int, hn, go_sem, simprocAttr] <;> try (simp (disch := omega) only [wrW]; try simp -implicitDefEqProofs only [ho, av_mk', Int.cast_ofNat_Int, hn, go_sem, simprocAttr]))
           | with_reducible refine And.intro (by first | omega | (simp only [hgW]; omega)) ?_
           | (exfalso; omega)
          refine ⟨(k + 1, l), ?_, ⟨by simp only; omega, hl2, by simp only; omega, by simp only; omega, hf⟩, by simp only; omega⟩
          rw [e2]
          simp -implicitDefEqProofs only [Int.cast_ofNat_Int, hn, go_sem, simprocAttr]
          try rfl
      · have hie : i = l.length := by omega
        rw [if_pos (Or.inl hie)] at hins
        rw [hins] at hf hev
        repeat' first
         | with_reducible refine Rl.go (by constructor <;> decide) ?_
         | ((with_reducible first | refine hK _ ?_ | refine hK.1 ?_ | refine hK.2 ?_); clear hK K)
         | ((with_reducible refine condS hK (fun hg => ?_) fun hg => ?_) <;> clear hK K <;> (try simp only [hgW] at hg) <;> try (exfalso; omega))
         | ((first | ((with_reducible first | refine Rk.go k20_VsCMade2 (by constructor) ?_ | refine Rd.go 14 k20_VsCMade2 a20_14_VsCMade2 o20_14_VsCMade2 mixed (by constructor) (by kernel_rfl) (by kernel_rfl) ?_ | refine Rd.go 24 k20_VsCMade2 a20_24_VsCMade2 o20_24_VsCMade2 mixed (by constructor) (by kernel_rfl) (by kernel_rfl) ?_ | refine Rd.go 26 k20_VsCMade2 a20_26_VsCMade2 o20_26_VsCMade2 mixed (by constructor) (by kernel_rfl) (by kernel_rfl) ?_ | refine Rd.go 27 k20_VsCMade2 a20_27_VsCMade2 o20_27_VsCMade2 mixed (by constructor) (by kernel_rfl) (by kernel_rfl) ?_); intro K hK) | with_reducible refine Rr.go [] (by constructor) ?_ | (with_reducible refine guardP_split (fun hg => ?_) fun hg => ?_) <;> (try simp only [hg]) <;> (try simp only [hgW] at hg)) <;> simp -implicitDefEqProofs only [Int.cast_ofNat_Int, hn, go_sem, simprocAttr] <;> try (simp (disch := omega) only [wrW]; try simp -implicitDefEqProofs only [Int.cast_ofNat_Int, hn, go_sem, simprocAttr]))
         | with_reducible refine And.intro (by first | omega | (simp only [hgW]; omega)) ?_
         | (exfalso; omega)
        refine ⟨(k + 1, _), ?_, ⟨by simp only; omega, hev.1, by simp only; omega, by simp only; omega, hf⟩, by simp only; omega⟩
        rw [e2]
        simp -implicitDefEqProofs only [e7, e8, Int.cast_ofNat_Int, hn, go_sem, simprocAttr]
        try rfl
theorem made_ok : ∀ d, d ≤ 5 → MadeOk (madeS d) d
  | 0, _ => fun p hp => f20_leaf 0 (by omega) p hp.1 (fun h => by cases h.1)
  | d + 1, hd => fun p hp => by
    obtain ⟨R, hR⟩ : ∃ R, madeS (d + 1) p = R := ⟨_, rfl⟩
    rw [hR]
    simp only [madeS] at hR
    by_cases h5 : 1 + p.k % 9 = 5
    · rw [if_pos h5] at hR
      subst hR
      exact own_share (f20_arr d (by omega) (made_ok d (by omega)) p hp h5)
    rw [if_neg h5] at hR
    by_cases h6 : 1 + p.k % 9 = 6
    · rw [if_pos h6] at hR
      subst hR
      exact own_share (f20_map d (by omega) (made_ok d (by omega)) p hp h6)
    · rw [if_neg h6] at hR
      subst hR
      exact f20_leaf (d + 1) hd p hp.1 (fun h => by rcases h.2 with h | h; exact h5 h; exact h6 h)
theorem leaf_shape (p : CI) : ∃ k n bn b, leafS p = .mk k n bn b true [] := by
  unfold leafS
  (repeat' split) <;> exact ⟨_, _, _, _, rfl⟩
theorem made_own (d : Nat) (hd : d ≤ 5) (p : CI) (hp : PlanD (d + 1) p) : CallsP Tryd.prog 20 [p.av, .int .i64 (d : Int)] (madeS d p).own ∨ (CallsP Tryd.prog 20 [p.av, .int .i64 (d : Int)] (madeS d p).av ∧ ∃ k n bn b, madeS d p = .mk k n bn b true []) := by
  cases d with
  | zero => exact .inr ⟨made_ok 0 hd p hp, leaf_shape p⟩
  | succ d =>
    by_cases h5 : 1 + p.k % 9 = 5
    · have := f20_arr d (by omega) (made_ok d (by omega)) p hp h5
      exact .inl (by simp only [madeS]; rw [if_pos h5]; exact this)
    by_cases h6 : 1 + p.k % 9 = 6
    · have := f20_map d (by omega) (made_ok d (by omega)) p hp h6
      exact .inl (by simp only [madeS]; rw [if_neg h5, if_pos h6]; exact this)
    · exact .inr ⟨made_ok (d + 1) hd p hp, by simp only [madeS]; rw [if_neg h5, if_neg h6]; exact leaf_shape p⟩
end Go.Proofs.YtijcpdgfbboamaaDoor
