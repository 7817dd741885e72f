/- The members of a node: what is handed on. -/
import Derived.Test.YtfemncfhiihckaaDoorVsJHead
import Derived.Test.YtfemncfhiihckaaDoorVsRebox
open Go Go.VS
namespace Go.Proofs.YtfemncfhiihckaaDoor
set_option linter.unusedVariables false
set_option linter.unusedSimpArgs false
set_option maxRecDepth 20000
set_option maxHeartbeats 4000000
/-- A node as it is handed in: any kids, each slice nil or not. -/
structure GN where
  k : UInt8
  t : List UInt8
  n1 : Bool
  ns : List (List UInt8)
  n2 : Bool
  ks : List Int
instance : Inhabited GN := ⟨⟨0, [], true, [], true, []⟩⟩
def GN.av (g : GN) : AV := .agg [.int .u8 (g.k.toNat : Int), .str g.t, .sl none g.n1 1 (g.ns.map .str), .sl none g.n2 1 (g.ks.map (AV.int .i64))]
/-- The members of a node: names and kids. -/
def GN.zs (g : GN) : List (List UInt8 × Int) := g.ns.zip g.ks
def encM (z : List UInt8 × Int) : List AV := [.str z.1, .int .i64 z.2]
def memG (gs : List GN) (i : Int) : List (List UInt8 × Int) := if 0 ≤ i ∧ i < (gs.length : Int) then (gs.getD i.toNat default).zs else []
def k34_VsNMem : List Nat := [0,1,2,3,4]
attribute [go_sem] k34_VsNMem
theorem f34_ok (nb : Bool) (gs : List GN) (i : Int) : CallsB Tryd.prog 34 [.sl none nb 4 (gs.map GN.av), .int .i64 i] [] (.fn 47 [.ptr 1000000 0, .ptr 1000001 0]) [[.int .i64 i], [.sl none nb 4 (gs.map GN.av)]] := by
  refine CallsB.intro Tryd.func34 rfl (by show 2 ≤ 6; decide) ?_
  rintro X hX
  have hn : X.n = 6 := hX
  unfold Tryd.f34
  dsimp only
  rw [entryB_0, entry2]
  repeat' first
   | (with_reducible refine retSB_ret [3, 2] ?_)
   | with_reducible (first | refine Rl.go (by constructor <;> decide) ?_ | refine AWP.loopT 3 ?_ | refine AWP.unroll 3 ?_)
   | ((with_reducible first | refine hK _ ?_ | refine hK.1 ?_ | refine hK.2 ?_); clear hK K)
   | ((with_reducible refine condS hK (fun hg => ?_) fun hg => ?_) <;> clear hK K <;> (try simp only [hgW] at hg) <;> try (exfalso; omega))
   | ((first | ((with_reducible first | refine Rk.go k34_VsNMem (by constructor) ?_); intro K hK) | with_reducible refine Rr.go [] (by constructor) ?_ | (with_reducible refine guardP_split (fun hg => ?_) fun hg => ?_) <;> (try simp only [hg]) <;> (try simp only [hgW] at hg)) <;> simp -implicitDefEqProofs only [Array.size_empty, hn, go_sem, simprocAttr] <;> try simp (disch := omega) only [wrW])
   | with_reducible refine And.intro (by first | omega | (simp only [hgW]; omega)) ?_
   | (exfalso; omega)
  simp -implicitDefEqProofs only [hn, go_sem, simprocAttr]
def k47_VsNMem : List Nat := [0,1,2,4,5,13,18,19,20,21,46,48]
attribute [go_sem] k47_VsNMem
theorem f47_ok (nb : Bool) (gs : List GN) (i : Int) (hg : gs.length ≤ 100000) (hn : ∀ g ∈ gs, g.ns.length ≤ 100000 ∧ g.ks.length ≤ 100000) : IterB Tryd.prog 47 [.ptr 1000000 0, .ptr 1000001 0] [[.int .i64 i], [.sl none nb 4 (gs.map GN.av)]] ((memG gs i).map fun z => .tup (encM z)) [[.undef], [.undef]] := by
  by_cases h0 : 0 ≤ i ∧ i < (gs.length : Int)
  · obtain ⟨k, rfl⟩ : ∃ k : Nat, i = (k : Int) := ⟨i.toNat, by omega⟩
    have hk : k < gs.length := by omega
    obtain ⟨g, hgg⟩ : ∃ g, gs.getD k default = g := ⟨_, rfl⟩
    have hm := hn g (by rw [← hgg, List.getD_eq_getElem?_getD, List.getElem?_eq_getElem hk]; exact List.getElem_mem _)
    have hz : memG gs (k : Int) = g.ns.zip g.ks := by
      unfold memG
      rw [if_pos h0, Int.toNat_natCast, hgg]
      rfl
    rw [hz]
    obtain ⟨gk, gt, n1, ns, n2, ks⟩ := g
    simp only at hm ⊢
    obtain ⟨hm1, hm2⟩ := hm
    refine IterB.intro Tryd.func47 rfl (by show 2 + 1 ≤ 48; decide) rfl ?_
    rintro X lp hX
    have hn : X.n = 48 := hX
    unfold Tryd.f47
    dsimp only
    rw [entryI22]
    repeat' first
     | with_reducible refine Rl.go (by constructor <;> decide) ?_
     | ((with_reducible first | refine hK _ ?_ | refine hK.1 ?_ | refine hK.2 ?_); clear hK K)
     | ((with_reducible refine condS hK (fun hg => ?_) fun hg => ?_) <;> clear hK K <;> (try simp only [hgW] at hg) <;> try (exfalso; omega))
     | ((first | ((with_reducible first | refine Rk.go k47_VsNMem (by constructor) ?_); intro K hK) | with_reducible refine Rr.go [] (by constructor) ?_ | (with_reducible refine guardP_split (fun hg => ?_) fun hg => ?_) <;> (try simp only [hg]) <;> (try simp only [hgW] at hg)) <;> simp -implicitDefEqProofs only [hgg, GN.av, hn, go_sem, simprocAttr] <;> try simp (disch := omega) only [wrW])
     | with_reducible refine And.intro (by first | omega | (simp only [hgW]; omega)) ?_
     | (exfalso; omega)
    refine AWP.loopX [0, 1, 2, 18, 19, 20, 48] [] (fun j : Nat => St.mk (lk [(0, .yl lp), (1, .ptr 1000000 0), (2, .ptr 1000001 0), (18, .sl none n1 1 (ns.map .str)), (19, .int .i64 (ns.length : Int)), (20, .int .i64 (j : Int)), (48, .ghost lp false (((ns.zip ks).take j).map fun z => .tup (encM z)) (((ns.zip ks).drop j).map fun z => .tup (encM z)))])
      (lkB [(1000000, [.int .i64 (k : Int)]), (1000001, [.sl none nb 4 (gs.map GN.av)])]) (hasS []) (hasS []) (hasN []) (lkR []))
      (fun j => j ≤ ns.length ∧ j ≤ ks.length) (fun j => ns.length - j) 0 ?_ ⟨Nat.zero_le _, Nat.zero_le _⟩ ?_
    · simp -implicitDefEqProofs only [hn, go_sem, simprocAttr]
      try rfl
    rintro j ⟨hj1, hj2⟩
    try dsimp only
    have ej : (j : Int) + 1 = ((j + 1 : Nat) : Int) := by omega
    by_cases hjn : j = ns.length
    · subst hjn
      repeat' first
       | with_reducible refine Rl.go (by constructor <;> decide) ?_
       | ((with_reducible first | refine hK _ ?_ | refine hK.1 ?_ | refine hK.2 ?_); clear hK K)
       | ((with_reducible refine condS hK (fun hg => ?_) fun hg => ?_) <;> clear hK K <;> (try simp only [hgW] at hg) <;> try (exfalso; omega))
       | ((first | ((with_reducible first | refine Rk.go k47_VsNMem (by constructor) ?_); intro K hK) | with_reducible refine Rr.go [] (by constructor) ?_ | (with_reducible refine guardP_split (fun hg => ?_) fun hg => ?_) <;> (try simp only [hg]) <;> (try simp only [hgW] at hg)) <;> simp -implicitDefEqProofs only [hn, go_sem, simprocAttr] <;> try simp (disch := omega) only [wrW])
       | with_reducible refine And.intro (by first | omega | (simp only [hgW]; omega)) ?_
       | (exfalso; omega)
      exact ⟨.inr rfl, ⟨false, _, _, rfl, fun _ => by rw [List.drop_of_length_le (by rw [List.length_zip]; omega)]; rfl⟩, leaves1_two rfl rfl (.inr rfl) (.inr rfl)⟩
    by_cases hjk : j = ks.length
    · subst hjk
      repeat' first
       | with_reducible refine Rl.go (by constructor <;> decide) ?_
       | ((with_reducible first | refine hK _ ?_ | refine hK.1 ?_ | refine hK.2 ?_); clear hK K)
       | ((with_reducible refine condS hK (fun hg => ?_) fun hg => ?_) <;> clear hK K <;> (try simp only [hgW] at hg) <;> try (exfalso; omega))
       | ((first | ((with_reducible first | refine Rk.go k47_VsNMem (by constructor) ?_); intro K hK) | with_reducible refine Rr.go [] (by constructor) ?_ | (with_reducible refine guardP_split (fun hg => ?_) fun hg => ?_) <;> (try simp only [hg]) <;> (try simp only [hgW] at hg)) <;> simp -implicitDefEqProofs only [hgg, GN.av, hn, go_sem, simprocAttr] <;> try simp (disch := omega) only [wrW])
       | with_reducible refine And.intro (by first | omega | (simp only [hgW]; omega)) ?_
       | (exfalso; omega)
      exact ⟨.inl rfl, ⟨false, _, _, rfl, fun _ => by rw [List.drop_of_length_le (by rw [List.length_zip]; omega)]; rfl⟩, leaves1_two rfl rfl (.inr rfl) (.inr rfl)⟩
    have hd : (ns.zip ks).drop j = (ns.getD j default, ks.getD j default) :: (ns.zip ks).drop (j + 1) := by
      rw [List.drop_eq_getElem_cons (by rw [List.length_zip]; omega), List.getElem_zip, List.getD_eq_getElem?_getD, List.getD_eq_getElem?_getD, List.getElem?_eq_getElem (by omega), List.getElem?_eq_getElem (by omega)]
      rfl
    have ht : (ns.zip ks).take (j + 1) = (ns.zip ks).take j ++ [(ns.getD j default, ks.getD j default)] := by
      rw [List.take_succ_eq_append_getElem (by rw [List.length_zip]; omega), List.getElem_zip, List.getD_eq_getElem?_getD, List.getD_eq_getElem?_getD, List.getElem?_eq_getElem (by omega), List.getElem?_eq_getElem (by omega)]
      rfl
    rw [hd]
    obtain ⟨a, ha⟩ : ∃ a, ns.getD j default = a := ⟨_, rfl⟩
    obtain ⟨c, hc⟩ : ∃ c, ks.getD j default = c := ⟨_, rfl⟩
    rw [ha, hc] at ht ⊢
    repeat' first
     | with_reducible refine Rl.go (by constructor <;> decide) ?_
     | ((with_reducible first | refine hK _ ?_ | refine hK.1 ?_ | refine hK.2 ?_); clear hK K)
     | ((with_reducible refine condS hK (fun hg => ?_) fun hg => ?_) <;> clear hK K <;> (try simp only [hgW] at hg) <;> try (exfalso; omega))
     | ((first | ((with_reducible first | refine Rk.go k47_VsNMem (by constructor) ?_); intro K hK) | with_reducible refine Rr.go [] (by constructor) ?_ | (with_reducible refine guardP_split (fun hg => ?_) fun hg => ?_) <;> (try simp only [hg]) <;> (try simp only [hgW] at hg)) <;> simp -implicitDefEqProofs only [hgg, GN.av, ha, hc, hn, go_sem, simprocAttr] <;> try simp (disch := omega) only [wrW])
     | with_reducible refine And.intro (by first | omega | (simp only [hgW]; omega)) ?_
     | (exfalso; omega)
    refine yieldP_mk (ys := encM (a, c)) _ _ ?_ rfl ?_ (by decide) ?_
    · rfl
    · simp -implicitDefEqProofs only [hn, go_sem, simprocAttr]
    · intro b
      simp -implicitDefEqProofs only [hn, go_sem, simprocAttr]
      repeat' first
       | with_reducible refine Rl.go (by constructor <;> decide) ?_
       | ((with_reducible first | refine hK _ ?_ | refine hK.1 ?_ | refine hK.2 ?_); clear hK K)
       | ((with_reducible refine condS hK (fun hg => ?_) fun hg => ?_) <;> clear hK K <;> (try simp only [hgW] at hg) <;> try (exfalso; omega))
       | ((first | ((with_reducible first | refine Rk.go k47_VsNMem (by constructor) ?_); intro K hK) | with_reducible refine Rr.go [] (by constructor) ?_ | (with_reducible refine guardP_split (fun hg => ?_) fun hg => ?_) <;> (try simp only [hg]) <;> (try simp only [hgW] at hg)) <;> simp -implicitDefEqProofs only [hn, go_sem, simprocAttr] <;> try simp (disch := omega) only [wrW])
       | with_reducible refine And.intro (by first | omega | (simp only [hgW]; omega)) ?_
       | (exfalso; omega)
      · subst hg
        exact ⟨.inl rfl, ⟨true, _, _, rfl, fun h => by cases h⟩, leaves1_two rfl rfl (.inr rfl) (.inr rfl)⟩
      · subst hg
        refine ⟨j + 1, ?_, ⟨by omega, by omega⟩, by omega⟩
        rw [ht, ej]
        simp -implicitDefEqProofs only [hn, go_sem, simprocAttr]
        try rfl
  · have hz : memG gs i = [] := by unfold memG; rw [if_neg h0]
    rw [hz]
    by_cases h1 : i < 0
    · refine IterB.intro Tryd.func47 rfl (by show 2 + 1 ≤ 48; decide) rfl ?_
      rintro X lp hX
      have hn : X.n = 48 := hX
      unfold Tryd.f47
      dsimp only
      rw [entryI22]
      repeat' first
       | with_reducible refine Rl.go (by constructor <;> decide) ?_
       | ((with_reducible first | refine hK _ ?_ | refine hK.1 ?_ | refine hK.2 ?_); clear hK K)
       | ((with_reducible refine condS hK (fun hg => ?_) fun hg => ?_) <;> clear hK K <;> (try simp only [hgW] at hg) <;> try (exfalso; omega))
       | ((first | ((with_reducible first | refine Rk.go k47_VsNMem (by constructor) ?_); intro K hK) | with_reducible refine Rr.go [] (by constructor) ?_ | (with_reducible refine guardP_split (fun hg => ?_) fun hg => ?_) <;> (try simp only [hg]) <;> (try simp only [hgW] at hg)) <;> simp -implicitDefEqProofs only [hn, go_sem, simprocAttr] <;> try simp (disch := omega) only [wrW])
       | with_reducible refine And.intro (by first | omega | (simp only [hgW]; omega)) ?_
       | (exfalso; omega)
      exact ⟨.inl rfl, ⟨false, _, _, rfl, fun _ => rfl⟩, leaves1_two rfl rfl (.inr rfl) (.inr rfl)⟩
    · refine IterB.intro Tryd.func47 rfl (by show 2 + 1 ≤ 48; decide) rfl ?_
      rintro X lp hX
      have hn : X.n = 48 := hX
      unfold Tryd.f47
      dsimp only
      rw [entryI22]
      repeat' first
       | with_reducible refine Rl.go (by constructor <;> decide) ?_
       | ((with_reducible first | refine hK _ ?_ | refine hK.1 ?_ | refine hK.2 ?_); clear hK K)
       | ((with_reducible refine condS hK (fun hg => ?_) fun hg => ?_) <;> clear hK K <;> (try simp only [hgW] at hg) <;> try (exfalso; omega))
       | ((first | ((with_reducible first | refine Rk.go k47_VsNMem (by constructor) ?_); intro K hK) | with_reducible refine Rr.go [] (by constructor) ?_ | (with_reducible refine guardP_split (fun hg => ?_) fun hg => ?_) <;> (try simp only [hg]) <;> (try simp only [hgW] at hg)) <;> simp -implicitDefEqProofs only [hn, go_sem, simprocAttr] <;> try simp (disch := omega) only [wrW])
       | with_reducible refine And.intro (by first | omega | (simp only [hgW]; omega)) ?_
       | (exfalso; omega)
      exact ⟨.inl rfl, ⟨false, _, _, rfl, fun _ => rfl⟩, leaves1_two rfl rfl (.inr rfl) (.inr rfl)⟩
end Go.Proofs.YtfemncfhiihckaaDoor
