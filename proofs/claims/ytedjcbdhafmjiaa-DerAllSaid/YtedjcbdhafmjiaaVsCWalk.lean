/- The law DerAll's walk. -/
import Derived.Test.YtedjcbdhafmjiaaVsCLists
import Derived.Test.YtedjcbdhafmjiaaVsCAwake
open Go Go.VS
namespace Go.Proofs.Ytedjcbdhafmjiaa
set_option linter.unusedVariables false
set_option linter.unusedSimpArgs false
set_option maxRecDepth 20000
set_option maxHeartbeats 4000000
def pz (z : Zt) : Bool × UInt8 × List UInt8 := (false, z.tag, z.body)
theorem map_pz (zs : List Zt) : zs.map (fun z => pcAV z.tag z.body) = (zs.map pz).map pAV := by
  rw [List.map_map]; rfl
/-- How many are handed on. -/
def cntS (total : Nat) (stop : Int) : Int := if 1 ≤ stop ∧ stop ≤ (total : Int) then stop else (total : Int)
theorem mid_split {α : Type} {ps qs zs1 zs2 : List α} {z : α} (h : ps ++ qs = zs1 ++ z :: zs2) : (zs1.length < ps.length ∧ ps[zs1.length]? = some z) ∨ (ps.length ≤ zs1.length ∧ qs[zs1.length - ps.length]? = some z) := by
  have h1 : (ps ++ qs)[zs1.length]? = some z := by rw [h]; simp
  by_cases hl : zs1.length < ps.length
  · rw [List.getElem?_append_left hl] at h1; exact .inl ⟨hl, h1⟩
  · rw [List.getElem?_append_right (by omega)] at h1; exact .inr ⟨by omega, h1⟩
def k33_VsCWalk : List Nat := [0,1,2,3,5,6,7,8,9,10,11,12,14,15,16,59,65]
def a33_5_VsCWalk : List Nat := [0,0,2,7,15,31,63,127,255,255,255,1791,3839,8191,16383,32767,65535,131071,262143,262143,786431,2097151,4194303,8388607,16777215,33554431,67108863,67108863,268435455,536870911,1073741823,2147483647,4294967295,8589934591,17179869183,34359738367,68719476735,137438953471,274877906943,549755813887,1099511627775,2199023255551,4398046511103]
def o33_5_VsCWalk : List Nat := [0,1,2,3,4,5,6,7,8,9,10,11,12,13,14,15,16,17,18,19,20,21,22,23,24,25,26,27,28,29,30,31,32,33,34,35,36,37,38,39,40,41,42]
attribute [go_sem] k33_VsCWalk a33_5_VsCWalk o33_5_VsCWalk
theorem f33_ok (nb na : Bool) (bs : List UInt8) (hnb : nb = true → bs = []) (hB : bs.length ≤ 10000) (ps qs : List Zt) (er stop : Int) (hps : zsS bs = ps ++ qs) (hp : ∀ z ∈ ps, z.e = 0) (hq : (er = 0 ∧ qs = []) ∨ (er ≠ 0 ∧ qs = [⟨0, [], er⟩])) :
    CallsP Try.prog 33 [.sl none nb 1 (bs.map u8), .sl none na 2 ((ps.map pz).map pAV), .int .i64 er, .int .i64 stop] (.tup [.int .i64 (cntS (zsS bs).length stop), .bool true]) := by
  have c55 := f55_ok nb bs hnb
  have hzl := zsS_len bs
  refine CallsP.introRF Try.func33 rfl (by show 4 ≤ 67; decide) ?_
  rintro X hX hR
  have hn : X.n = 67 := hX
  unfold Try.f33
  dsimp only
  rw [entryB_0, entry4]
  repeat' first
    | with_reducible (first | refine AWP.seqA ?_ | refine AWP.seqB ?_ | refine AWP.block ?_ | refine AWP.skipN ?_ | refine AWP.skip ?_ | refine AWP.exit ?_ | refine AWP.ret ?_ | refine AWP.loopT 3 ?_ | refine AWP.unroll 3 ?_ | refine LoopN.succ ?_ | refine thenS_n ?_ | refine thenS_x ?_ | refine thenS_r ?_ | refine blockS_n ?_ | refine blockS_r ?_ | refine blockS_x ?_ | refine blockS_y (by decide) ?_)
    | ((with_reducible refine hK _ ?_); clear hK K) | ((with_reducible refine hKt ?_); clear hKt hKf Kt Kf) | ((with_reducible refine hKf ?_); clear hKt hKf Kt Kf) | ((with_reducible refine condP_split (fun hg => hKt ?_) (fun hg => hKf ?_)) <;> clear hKt hKf Kt Kf <;> (try simp only [hgW] at hg) <;> try (exfalso; omega))
    | ((with_reducible refine callE_B3 (f52_ok nb bs) ?_); simp -implicitDefEqProofs only [eqOk_true, hn, go_sem, simprocAttr]; (skip; try simp (disch := omega) only [wrW]); fail_if_success (with_reducible refine eqOk_mk ?_))
    | ((first | (with_reducible refine guardP_split (fun hg => ?_) (fun hg => ?_)) <;> simp -implicitDefEqProofs only [hg, hn, go_sem, simprocAttr] <;> (try simp only [hgW] at hg) | ((first | with_reducible (first | refine AWP.seqRB k33_VsCWalk fun K hK => ?_ | refine AWP.lastRB k33_VsCWalk fun K hK => ?_ | refine AWP.seqD (id := 5) k33_VsCWalk a33_5_VsCWalk o33_5_VsCWalk mixed (by kernel_rfl) (by kernel_rfl) fun K hK => ?_ | refine AWP.lastD (id := 5) k33_VsCWalk a33_5_VsCWalk o33_5_VsCWalk mixed (by kernel_rfl) (by kernel_rfl) fun K hK => ?_ | refine AWP.seqC fun Kt Kf hKt hKf => ?_ | refine AWP.condK fun Kt Kf hKt hKf => ?_ | refine retSF_ret [] ?_ | refine retSF_end [] ?_)); simp -implicitDefEqProofs only [hn, go_sem, simprocAttr])) <;> try simp (disch := omega) only [wrW])
    | with_reducible refine And.intro (by first | omega | (simp only [hgW]; omega)) ?_
    | (exfalso; omega)
  refine AWP.rebox rfl ?_
  simp -implicitDefEqProofs only [hn, go_sem, simprocAttr]
  refine AWP.order [1200140, 1100005, 1100006, 1100007, 1100008, 1100009, 1100010] rfl rfl ?_
  simp -implicitDefEqProofs only [hn, go_sem, simprocAttr]
  refine AWP.rangeT encZ (zsS bs) (fun l => decide (¬ (1 ≤ stop ∧ stop ≤ (l.length : Int)))) [1200140] [[.sl none nb 1 (bs.map u8)]] _
    (fun l => [(1100005, [.sl none na 2 ((ps.map pz).map pAV)]), (1100006, [.int .i64 er]), (1100007, [.int .i64 stop]), (1100008, [.int .i64 0]), (1100009, [.bool false]), (1100010, [.int .i64 (l.length : Int)])])
    [5, 6, 7, 8, 9, 10] [11] (fun e B => e = .exit 0 ∧ (1 ≤ stop ∧ stop ≤ ((zsS bs).length : Int)) ∧ B = [(1100005, [.sl none na 2 ((ps.map pz).map pAV)]), (1100006, [.int .i64 er]), (1100007, [.int .i64 stop]), (1100008, [.int .i64 0]), (1100009, [.bool false]), (1100010, [.int .i64 stop])])
    (f := 55) (cap := [.ptr 1200140 0]) (bs' := [[.undef]]) hR c55 ?_ ?_ ?_ ?_ ?_ ?_ ?_ ?_ ?_ ?_ ?_ ?_
  · simp -implicitDefEqProofs only [hn, go_sem, simprocAttr]
  · rfl
  · simp [nodupN, hasN, okBL, okB, stAL, stA]
  · simp [hn, stab, stabL, lk, plainS, hasN]
  · simp [okKeys, hasN, noIdL, noId]
  · simp; omega
  · simp [hn, nodupN, hasN]
  · exact fun z => rfl
  · simp [okBL, okB, stabL, stab, bxIds]
  · intro zs1 z zs2 hz h1 X' hX'
    have hn0 := hn
    have hn : X'.n = 67 := hX'.trans hn
    have hlz := congrArg List.length hz
    simp only [List.length_append, List.length_cons] at hlz
    unfold encZ
    simp -implicitDefEqProofs only [hn, go_sem, simprocAttr]
    repeat' first
      | with_reducible (first | refine AWP.seqA ?_ | refine AWP.seqB ?_ | refine AWP.block ?_ | refine AWP.skipN ?_ | refine AWP.skip ?_ | refine AWP.exit ?_ | refine AWP.ret ?_ | refine AWP.loopT 3 ?_ | refine AWP.unroll 3 ?_ | refine LoopN.succ ?_ | refine thenS_n ?_ | refine thenS_x ?_ | refine thenS_r ?_ | refine blockS_n ?_ | refine blockS_r ?_ | refine blockS_x ?_ | refine blockS_y (by decide) ?_)
      | ((with_reducible refine hK _ ?_); clear hK K) | ((with_reducible refine hKt ?_); clear hKt hKf Kt Kf) | ((with_reducible refine hKf ?_); clear hKt hKf Kt Kf) | ((with_reducible refine condP_split (fun hg => hKt ?_) (fun hg => hKf ?_)) <;> clear hKt hKf Kt Kf <;> (try simp only [hgW] at hg) <;> try (exfalso; omega))
      | ((first | (with_reducible refine guardP_split (fun hg => ?_) (fun hg => ?_)) <;> simp -implicitDefEqProofs only [hg, hn, go_sem, simprocAttr] <;> (try simp only [hgW] at hg) | ((first | with_reducible (first | refine AWP.seqRB k33_VsCWalk fun K hK => ?_ | refine AWP.lastRB k33_VsCWalk fun K hK => ?_ | refine AWP.seqD (id := 5) k33_VsCWalk a33_5_VsCWalk o33_5_VsCWalk mixed (by kernel_rfl) (by kernel_rfl) fun K hK => ?_ | refine AWP.lastD (id := 5) k33_VsCWalk a33_5_VsCWalk o33_5_VsCWalk mixed (by kernel_rfl) (by kernel_rfl) fun K hK => ?_ | refine AWP.seqC fun Kt Kf hKt hKf => ?_ | refine AWP.condK fun Kt Kf hKt hKf => ?_ | refine retSF_ret [] ?_ | refine retSF_end [] ?_)); simp -implicitDefEqProofs only [hn, go_sem, simprocAttr])) <;> try simp (disch := omega) only [wrW])
      | with_reducible refine And.intro (by first | omega | (simp only [hgW]; omega)) ?_
      | (exfalso; omega)
    refine ⟨rfl, by simp [hX', hn0, lk, plainS], fun X'' hX'' => ?_⟩
    have hn : X''.n = 67 := hX''.trans hn0
    rw [hps] at hz
    rcases mid_split hz with ⟨m1, m2⟩ | ⟨m1, m2⟩
    · have he : z.e = 0 := hp z (List.mem_of_getElem? m2)
      have px : pAV ((ps.map pz).getD zs1.length default) = .agg [.int .u8 (z.tag.toNat : Int), .sl none false 1 (z.body.map u8)] := by
        rw [List.getD_eq_getElem?_getD, List.getElem?_map, m2]; rfl
      rw [he]
      repeat' first
        | with_reducible (first | refine AWP.seqA ?_ | refine AWP.seqB ?_ | refine AWP.block ?_ | refine AWP.skipN ?_ | refine AWP.skip ?_ | refine AWP.exit ?_ | refine AWP.ret ?_ | refine AWP.loopT 3 ?_ | refine AWP.unroll 3 ?_ | refine LoopN.succ ?_ | refine thenS_n ?_ | refine thenS_x ?_ | refine thenS_r ?_ | refine blockS_n ?_ | refine blockS_r ?_ | refine blockS_x ?_ | refine blockS_y (by decide) ?_)
        | ((with_reducible refine hK _ ?_); clear hK K) | ((with_reducible refine hKt ?_); clear hKt hKf Kt Kf) | ((with_reducible refine hKf ?_); clear hKt hKf Kt Kf) | ((with_reducible refine condP_split (fun hg => hKt ?_) (fun hg => hKf ?_)) <;> clear hKt hKf Kt Kf <;> (try simp only [hgW] at hg) <;> try (exfalso; omega))
        | ((first | (with_reducible refine guardP_split (fun hg => ?_) (fun hg => ?_)) <;> simp -implicitDefEqProofs only [hg, px, u8, hn, go_sem, simprocAttr] <;> (try simp only [hgW] at hg) | ((first | with_reducible (first | refine AWP.seqRB k33_VsCWalk fun K hK => ?_ | refine AWP.lastRB k33_VsCWalk fun K hK => ?_ | refine AWP.seqD (id := 5) k33_VsCWalk a33_5_VsCWalk o33_5_VsCWalk mixed (by kernel_rfl) (by kernel_rfl) fun K hK => ?_ | refine AWP.lastD (id := 5) k33_VsCWalk a33_5_VsCWalk o33_5_VsCWalk mixed (by kernel_rfl) (by kernel_rfl) fun K hK => ?_ | refine AWP.seqC fun Kt Kf hKt hKf => ?_ | refine AWP.condK fun Kt Kf hKt hKf => ?_ | refine retSF_ret [] ?_ | refine retSF_end [] ?_) | refine callE_P (f41_ok z.tag z.tag false false z.body z.body) ?_ | refine callP_intro2 (f41_ok z.tag z.tag false false z.body z.body) ?_ | refine callE_X (f41_ok z.tag z.tag false false z.body z.body) ?_); simp -implicitDefEqProofs only [px, u8, hn, go_sem, simprocAttr])) <;> try simp (disch := omega) only [wrW])
        | with_reducible refine And.intro (by first | omega | (simp only [hgW]; omega)) ?_
        | (exfalso; omega)
      · refine ⟨_, ?_, ?_, .inr ⟨rfl, rfl, ⟨by omega, by omega⟩, rfl⟩⟩
        · simp -implicitDefEqProofs only [hn, go_sem, simprocAttr]
          rw [hg]
        · rfl
      · refine ⟨_, ?_, ?_, .inl ⟨rfl, ?_, rfl⟩⟩
        · simp -implicitDefEqProofs only [hn, go_sem, simprocAttr]
          simp
        · rfl
        · simp only [decide_eq_true_eq] at h1
          simp
          omega
    · have hj : er ≠ 0 ∧ zs1.length = ps.length ∧ z = ⟨0, [], er⟩ := by
        rcases hq with ⟨_, rfl⟩ | ⟨q1, rfl⟩
        · simp at m2
        · have : zs1.length - ps.length = 0 := by
            have := (List.getElem?_eq_some_iff.1 m2).1
            simpa using this
          rw [this] at m2
          exact ⟨q1, by omega, by simpa using m2.symm⟩
      obtain ⟨her, hlen, rfl⟩ := hj
      repeat' first
        | with_reducible (first | refine AWP.seqA ?_ | refine AWP.seqB ?_ | refine AWP.block ?_ | refine AWP.skipN ?_ | refine AWP.skip ?_ | refine AWP.exit ?_ | refine AWP.ret ?_ | refine AWP.loopT 3 ?_ | refine AWP.unroll 3 ?_ | refine LoopN.succ ?_ | refine thenS_n ?_ | refine thenS_x ?_ | refine thenS_r ?_ | refine blockS_n ?_ | refine blockS_r ?_ | refine blockS_x ?_ | refine blockS_y (by decide) ?_)
        | ((with_reducible refine hK _ ?_); clear hK K) | ((with_reducible refine hKt ?_); clear hKt hKf Kt Kf) | ((with_reducible refine hKf ?_); clear hKt hKf Kt Kf) | ((with_reducible refine condP_split (fun hg => hKt ?_) (fun hg => hKf ?_)) <;> clear hKt hKf Kt Kf <;> (try simp only [hgW] at hg) <;> try (exfalso; omega))
        | ((first | (with_reducible refine guardP_split (fun hg => ?_) (fun hg => ?_)) <;> simp -implicitDefEqProofs only [hg, hn, go_sem, simprocAttr] <;> (try simp only [hgW] at hg) | ((first | with_reducible (first | refine AWP.seqRB k33_VsCWalk fun K hK => ?_ | refine AWP.lastRB k33_VsCWalk fun K hK => ?_ | refine AWP.seqD (id := 5) k33_VsCWalk a33_5_VsCWalk o33_5_VsCWalk mixed (by kernel_rfl) (by kernel_rfl) fun K hK => ?_ | refine AWP.lastD (id := 5) k33_VsCWalk a33_5_VsCWalk o33_5_VsCWalk mixed (by kernel_rfl) (by kernel_rfl) fun K hK => ?_ | refine AWP.seqC fun Kt Kf hKt hKf => ?_ | refine AWP.condK fun Kt Kf hKt hKf => ?_ | refine retSF_ret [] ?_ | refine retSF_end [] ?_)); simp -implicitDefEqProofs only [hn, go_sem, simprocAttr])) <;> try simp (disch := omega) only [wrW])
        | with_reducible refine And.intro (by first | omega | (simp only [hgW]; omega)) ?_
        | (exfalso; omega)
      · refine ⟨_, ?_, ?_, .inr ⟨rfl, rfl, ⟨by omega, by omega⟩, rfl⟩⟩
        · simp -implicitDefEqProofs only [hn, go_sem, simprocAttr]
          rw [hg]
        · rfl
      · refine ⟨_, ?_, ?_, .inl ⟨rfl, ?_, rfl⟩⟩
        · simp -implicitDefEqProofs only [hn, go_sem, simprocAttr]
          simp
        · rfl
        · simp only [decide_eq_true_eq] at h1
          simp
          omega
  · intro h1
    simp only [decide_eq_true_eq] at h1
    have : cntS (zsS bs).length stop = ((zsS bs).length : Int) := if_neg h1
    rw [this]
    simp -implicitDefEqProofs only [hn, go_sem, simprocAttr]
    repeat' first
      | with_reducible (first | refine AWP.seqA ?_ | refine AWP.seqB ?_ | refine AWP.block ?_ | refine AWP.skipN ?_ | refine AWP.skip ?_ | refine AWP.exit ?_ | refine AWP.ret ?_ | refine AWP.loopT 3 ?_ | refine AWP.unroll 3 ?_ | refine LoopN.succ ?_ | refine thenS_n ?_ | refine thenS_x ?_ | refine thenS_r ?_ | refine blockS_n ?_ | refine blockS_r ?_ | refine blockS_x ?_ | refine blockS_y (by decide) ?_)
      | ((with_reducible refine hK _ ?_); clear hK K) | ((with_reducible refine hKt ?_); clear hKt hKf Kt Kf) | ((with_reducible refine hKf ?_); clear hKt hKf Kt Kf) | ((with_reducible refine condP_split (fun hg => hKt ?_) (fun hg => hKf ?_)) <;> clear hKt hKf Kt Kf <;> (try simp only [hgW] at hg) <;> try (exfalso; omega))
      | ((first | (with_reducible refine guardP_split (fun hg => ?_) (fun hg => ?_)) <;> simp -implicitDefEqProofs only [hg, hn, go_sem, simprocAttr] <;> (try simp only [hgW] at hg) | ((first | with_reducible (first | refine AWP.seqRB k33_VsCWalk fun K hK => ?_ | refine AWP.lastRB k33_VsCWalk fun K hK => ?_ | refine AWP.seqD (id := 5) k33_VsCWalk a33_5_VsCWalk o33_5_VsCWalk mixed (by kernel_rfl) (by kernel_rfl) fun K hK => ?_ | refine AWP.lastD (id := 5) k33_VsCWalk a33_5_VsCWalk o33_5_VsCWalk mixed (by kernel_rfl) (by kernel_rfl) fun K hK => ?_ | refine AWP.seqC fun Kt Kf hKt hKf => ?_ | refine AWP.condK fun Kt Kf hKt hKf => ?_ | refine retSF_ret [] ?_ | refine retSF_end [] ?_)); simp -implicitDefEqProofs only [hn, go_sem, simprocAttr])) <;> try simp (disch := omega) only [wrW])
      | with_reducible refine And.intro (by first | omega | (simp only [hgW]; omega)) ?_
      | (exfalso; omega)
  · rintro e B - ⟨rfl, h1, rfl⟩
    have : cntS (zsS bs).length stop = stop := if_pos h1
    rw [this]
    simp -implicitDefEqProofs only [hn, go_sem, simprocAttr]
    repeat' first
      | with_reducible (first | refine AWP.seqA ?_ | refine AWP.seqB ?_ | refine AWP.block ?_ | refine AWP.skipN ?_ | refine AWP.skip ?_ | refine AWP.exit ?_ | refine AWP.ret ?_ | refine AWP.loopT 3 ?_ | refine AWP.unroll 3 ?_ | refine LoopN.succ ?_ | refine thenS_n ?_ | refine thenS_x ?_ | refine thenS_r ?_ | refine blockS_n ?_ | refine blockS_r ?_ | refine blockS_x ?_ | refine blockS_y (by decide) ?_)
      | ((with_reducible refine hK _ ?_); clear hK K) | ((with_reducible refine hKt ?_); clear hKt hKf Kt Kf) | ((with_reducible refine hKf ?_); clear hKt hKf Kt Kf) | ((with_reducible refine condP_split (fun hg => hKt ?_) (fun hg => hKf ?_)) <;> clear hKt hKf Kt Kf <;> (try simp only [hgW] at hg) <;> try (exfalso; omega))
      | ((first | (with_reducible refine guardP_split (fun hg => ?_) (fun hg => ?_)) <;> simp -implicitDefEqProofs only [hg, hn, go_sem, simprocAttr] <;> (try simp only [hgW] at hg) | ((first | with_reducible (first | refine AWP.seqRB k33_VsCWalk fun K hK => ?_ | refine AWP.lastRB k33_VsCWalk fun K hK => ?_ | refine AWP.seqD (id := 5) k33_VsCWalk a33_5_VsCWalk o33_5_VsCWalk mixed (by kernel_rfl) (by kernel_rfl) fun K hK => ?_ | refine AWP.lastD (id := 5) k33_VsCWalk a33_5_VsCWalk o33_5_VsCWalk mixed (by kernel_rfl) (by kernel_rfl) fun K hK => ?_ | refine AWP.seqC fun Kt Kf hKt hKf => ?_ | refine AWP.condK fun Kt Kf hKt hKf => ?_ | refine retSF_ret [] ?_ | refine retSF_end [] ?_)); simp -implicitDefEqProofs only [hn, go_sem, simprocAttr])) <;> try simp (disch := omega) only [wrW])
      | with_reducible refine And.intro (by first | omega | (simp only [hgW]; omega)) ?_
      | (exfalso; omega)
end Go.Proofs.Ytedjcbdhafmjiaa
