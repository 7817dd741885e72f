/- The law CborEncodes' code answers true for any item, any plan, any place and any kind. -/
import Derived.Test.YtijcpdgfbboamaaDoorVsCSize
import Derived.Test.YtijcpdgfbboamaaDoorVsCMade2
import Derived.Test.YtijcpdgfbboamaaDoorVsCEncE
import Derived.Test.YtijcpdgfbboamaaDoorVsCRWE
import Derived.Test.YtijcpdgfbboamaaDoorVsCEncV
open Go Go.VS
namespace Go.Proofs.YtijcpdgfbboamaaDoor
set_option linter.unusedVariables false
set_option linter.unusedSimpArgs false
set_option maxRecDepth 20000
set_option maxHeartbeats 4000000
/-- What stands behind the first statement. -/
def tlE (c : Code) : Code := match c with
  | .seq _ b => b
  | c => c
theorem markE (id : Nat) {P : Program} {X : Ent} {ops : Array Oper} {d : Bool} {x y : Code} {Q : Exit → St → Prop} {st : St} (h : MarkQ (AWP P X (.seq (.seq (.region id ops d) x) y) Q st)) : AWP P X (.seq (.seq (.region id ops d) x) y) Q st := h
def k10_VsCEncodes : List Nat := [0,1,2,3,4,5,8,9,10,11,13,14,15,16,17,19,26,34,35,44,60,61,62,63,68,88]
def a10_11_VsCEncodes : List Nat := [0,1,0,0,15,0,32,0,128,480,1023,2047,4095]
def o10_11_VsCEncodes : List Nat := [0,1,2,3,4,5,6,7,8,9,10,11,12]
attribute [go_sem] k10_VsCEncodes a10_11_VsCEncodes o10_11_VsCEncodes
theorem tail10 (X : Ent) (hX : X.n = 90) (g : Nat) (x y : CI) (hx : PlanD 60 x) (hy : PlanD 60 y) :
    AWP Tryd.prog X (tlE (tlE (tlE (tlE ((Tryd.f10.body).getD .skip))))) (retS Tryd.prog Tryd.f10.results.toList (.bool true))
      (St.mk (lk [(4, .ptr 4 0), (8, .bool false), (9, .ptr 9 0)]) (lkB [(4, [.int .u8 (y.k : Int), .int .u64 (y.n : Int), .sl none y.bn 1 (y.b.map u8), .sl none y.kn 4 (y.ks.map CI.av)]), (9, [.int .u8 (x.k : Int), .int .u64 (x.n : Int), .sl none x.bn 1 (x.b.map u8), .sl (some ((0, g), 0)) x.kn 4 (x.ks.map CI.av)])]) (hasS []) (hasS []) (hasN []) (lkR [])) := by
  have hn : X.n = 90 := hX
  obtain ⟨L, hL, hLl, hp⟩ : ∃ L, [x.av, y.av] = L.map CI.av ∧ L.length = 2 ∧ ∀ z ∈ L, PlanD 60 z := ⟨[x, y], rfl, rfl, fun z hz => by
    simp only [List.mem_cons, List.not_mem_nil, or_false] at hz
    rcases hz with rfl | rfl
    · exact hx
    · exact hy⟩
  obtain ⟨xk, xn, xbn, xb, xkn, xks⟩ := x
  obtain ⟨yk, yn, ybn, yb, ykn, yks⟩ := y
  simp only [CI.k, CI.n, CI.b, CI.ks, CI.bn, CI.kn]
  rw [av_mk', av_mk'] at hL
  unfold Tryd.f10
  dsimp only [tlE, Option.getD_some]
  repeat' first
    | with_reducible (first | refine AWP.seqA ?_ | refine AWP.seqB ?_ | refine AWP.block ?_ | refine AWP.skipN ?_ | refine AWP.skip ?_ | refine AWP.exit ?_ | refine AWP.ret ?_ | refine LoopN.succ ?_ | refine thenS_n ?_ | refine thenS_x ?_ | refine thenS_r ?_ | refine blockS_n ?_ | refine blockS_r ?_ | refine blockS_x ?_ | refine blockS_y (by decide) ?_)
    | ((with_reducible refine hK _ ?_); clear hK K) | ((with_reducible refine hKt ?_); clear hKt hKf Kt Kf) | ((with_reducible refine hKf ?_); clear hKt hKf Kt Kf) | ((with_reducible refine condP_split (fun hg => hKt ?_) (fun hg => hKf ?_)) <;> clear hKt hKf Kt Kf <;> (try simp only [hgW] at hg) <;> try (exfalso; omega))
    | ((first | (with_reducible refine guardP_split (fun hg => ?_) (fun hg => ?_)) <;> simp -implicitDefEqProofs only [hg, hL, Int.cast_ofNat_Int, hn, go_sem, simprocAttr] <;> (try simp only [hgW] at hg) | ((first | with_reducible (first | refine AWP.seqRB k10_VsCEncodes fun K hK => ?_ | refine AWP.lastRB k10_VsCEncodes fun K hK => ?_ | refine AWP.seqD (id := 11) k10_VsCEncodes a10_11_VsCEncodes o10_11_VsCEncodes mixed (by kernel_rfl) (by kernel_rfl) fun K hK => ?_ | refine AWP.lastD (id := 11) k10_VsCEncodes a10_11_VsCEncodes o10_11_VsCEncodes mixed (by kernel_rfl) (by kernel_rfl) fun K hK => ?_ | refine AWP.seqC fun Kt Kf hKt hKf => ?_ | refine AWP.condK fun Kt Kf hKt hKf => ?_ | refine retS_ret ?_ | refine retS_end ?_ | refine retSB_ret [] ?_ | refine retSB_end [] ?_ | refine retSF_ret [] ?_ | refine retSF_end [] ?_)); simp -implicitDefEqProofs only [hL, Int.cast_ofNat_Int, hn, go_sem, simprocAttr])) <;> try simp (disch := omega) only [wrW])
    | with_reducible refine And.intro (by first | omega | (simp only [hgW]; omega)) ?_
    | (exfalso; omega)
  refine AWP.loopX [8, 60, 61, 62] [4, 9, 13] (fun k : Nat => St.mk (lk [(8, .bool false), (60, .sl (some ((0, 60), 0)) false 4 (L.map CI.av)), (61, .int .i64 (L.length : Int)), (62, .int .i64 (k : Int))])
      (lkB []) (hasS []) (hasS []) (hasN []) (lkR [])) (fun k => k ≤ L.length) (fun k => L.length - k) 0 ?_ (Nat.zero_le _) ?_
  · simp -implicitDefEqProofs only [Int.cast_ofNat_Int, hn, go_sem, simprocAttr]
    try rfl
  rintro k hk
  by_cases hkn : k = L.length
  · subst hkn
    repeat' first
      | with_reducible (first | refine AWP.seqA ?_ | refine AWP.seqB ?_ | refine AWP.block ?_ | refine AWP.skipN ?_ | refine AWP.skip ?_ | refine AWP.exit ?_ | refine AWP.ret ?_ | refine LoopN.succ ?_ | refine thenS_n ?_ | refine thenS_x ?_ | refine thenS_r ?_ | refine blockS_n ?_ | refine blockS_r ?_ | refine blockS_x ?_ | refine blockS_y (by decide) ?_)
      | ((with_reducible refine hK _ ?_); clear hK K) | ((with_reducible refine hKt ?_); clear hKt hKf Kt Kf) | ((with_reducible refine hKf ?_); clear hKt hKf Kt Kf) | ((with_reducible refine condP_split (fun hg => hKt ?_) (fun hg => hKf ?_)) <;> clear hKt hKf Kt Kf <;> (try simp only [hgW] at hg) <;> try (exfalso; omega))
      | ((first | (with_reducible refine guardP_split (fun hg => ?_) (fun hg => ?_)) <;> simp -implicitDefEqProofs only [hg, Int.cast_ofNat_Int, hn, go_sem, simprocAttr] <;> (try simp only [hgW] at hg) | ((first | with_reducible (first | refine AWP.seqRB k10_VsCEncodes fun K hK => ?_ | refine AWP.lastRB k10_VsCEncodes fun K hK => ?_ | refine AWP.seqD (id := 11) k10_VsCEncodes a10_11_VsCEncodes o10_11_VsCEncodes mixed (by kernel_rfl) (by kernel_rfl) fun K hK => ?_ | refine AWP.lastD (id := 11) k10_VsCEncodes a10_11_VsCEncodes o10_11_VsCEncodes mixed (by kernel_rfl) (by kernel_rfl) fun K hK => ?_ | refine AWP.seqC fun Kt Kf hKt hKf => ?_ | refine AWP.condK fun Kt Kf hKt hKf => ?_ | refine retS_ret ?_ | refine retS_end ?_ | refine retSB_ret [] ?_ | refine retSB_end [] ?_ | refine retSF_ret [] ?_ | refine retSF_end [] ?_)); simp -implicitDefEqProofs only [Int.cast_ofNat_Int, hn, go_sem, simprocAttr])) <;> try simp (disch := omega) only [wrW])
      | with_reducible refine And.intro (by first | omega | (simp only [hgW]; omega)) ?_
      | (exfalso; omega)
  obtain ⟨z, hz⟩ : ∃ z, L.getD k default = z := ⟨_, rfl⟩
  have hlt : k < L.length := by omega
  have hzm : z ∈ L := by
    rw [← hz, List.getD_eq_getElem?_getD, List.getElem?_eq_getElem hlt]; exact List.getElem_mem hlt
  have hpz := hp z hzm
  have c28 := f28_ok 60 (Nat.le_refl _) z hpz
  have e2 : (k : Int) + 1 = ((k + 1 : Nat) : Int) := by omega
  by_cases hbig : 15000 < sizeS 60 z
  · generalize sizeS 60 z = q at *
    obtain ⟨zk, zn, zbn, zb, zkn, zks⟩ := z
    simp only [av_mk'] at c28
    repeat' first
      | with_reducible (first | refine AWP.seqA ?_ | refine AWP.seqB ?_ | refine AWP.block ?_ | refine AWP.skipN ?_ | refine AWP.skip ?_ | refine AWP.exit ?_ | refine AWP.ret ?_ | refine LoopN.succ ?_ | refine thenS_n ?_ | refine thenS_x ?_ | refine thenS_r ?_ | refine blockS_n ?_ | refine blockS_r ?_ | refine blockS_x ?_ | refine blockS_y (by decide) ?_)
      | ((with_reducible refine hK _ ?_); clear hK K) | ((with_reducible refine hKt ?_); clear hKt hKf Kt Kf) | ((with_reducible refine hKf ?_); clear hKt hKf Kt Kf) | ((with_reducible refine condP_split (fun hg => hKt ?_) (fun hg => hKf ?_)) <;> clear hKt hKf Kt Kf <;> (try simp only [hgW] at hg) <;> try (exfalso; omega))
      | ((first | (with_reducible refine guardP_split (fun hg => ?_) (fun hg => ?_)) <;> simp -implicitDefEqProofs only [hg, hz, av_mk', Int.cast_ofNat_Int, hn, go_sem, simprocAttr] <;> (try simp only [hgW] at hg) | ((first | with_reducible (first | refine AWP.seqRB k10_VsCEncodes fun K hK => ?_ | refine AWP.lastRB k10_VsCEncodes fun K hK => ?_ | refine AWP.seqD (id := 11) k10_VsCEncodes a10_11_VsCEncodes o10_11_VsCEncodes mixed (by kernel_rfl) (by kernel_rfl) fun K hK => ?_ | refine AWP.lastD (id := 11) k10_VsCEncodes a10_11_VsCEncodes o10_11_VsCEncodes mixed (by kernel_rfl) (by kernel_rfl) fun K hK => ?_ | refine AWP.seqC fun Kt Kf hKt hKf => ?_ | refine AWP.condK fun Kt Kf hKt hKf => ?_ | refine retS_ret ?_ | refine retS_end ?_ | refine retSB_ret [] ?_ | refine retSB_end [] ?_ | refine retSF_ret [] ?_ | refine retSF_end [] ?_) | refine callE_P (c28) ?_ | refine callP_intro2 (c28) ?_ | refine callE_X (c28) ?_); simp -implicitDefEqProofs only [hz, av_mk', Int.cast_ofNat_Int, hn, go_sem, simprocAttr])) <;> try simp (disch := omega) only [wrW])
      | with_reducible refine And.intro (by first | omega | (simp only [hgW]; omega)) ?_
      | (exfalso; omega)
    refine ⟨k + 1, ?_, by omega, by omega⟩
    rw [e2]
    simp -implicitDefEqProofs only [Int.cast_ofNat_Int, hn, go_sem, simprocAttr]
    try rfl
  · have hf := size_fit 8 51 z hpz (by show sizeS 60 z ≤ 15000; omega)
    have c25 := f25_ok validI z hf
    have c19 := f19_ok validI z hf
    generalize sizeS 60 z = q at *
    generalize encS Go.Lib.validD z = w at *
    obtain ⟨c, er⟩ := w
    obtain ⟨zk, zn, zbn, zb, zkn, zks⟩ := z
    simp only [av_mk', bytesAV] at c28 c25 c19
    repeat' first
      | with_reducible (first | refine AWP.seqA ?_ | refine AWP.seqB ?_ | refine AWP.block ?_ | refine AWP.skipN ?_ | refine AWP.skip ?_ | refine AWP.exit ?_ | refine AWP.ret ?_ | refine LoopN.succ ?_ | refine thenS_n ?_ | refine thenS_x ?_ | refine thenS_r ?_ | refine blockS_n ?_ | refine blockS_r ?_ | refine blockS_x ?_ | refine blockS_y (by decide) ?_)
      | ((with_reducible refine hK _ ?_); clear hK K) | ((with_reducible refine hKt ?_); clear hKt hKf Kt Kf) | ((with_reducible refine hKf ?_); clear hKt hKf Kt Kf) | ((with_reducible refine condP_split (fun hg => hKt ?_) (fun hg => hKf ?_)) <;> clear hKt hKf Kt Kf <;> (try simp only [hgW] at hg) <;> try (exfalso; omega))
      | ((first | (with_reducible refine guardP_split (fun hg => ?_) (fun hg => ?_)) <;> simp -implicitDefEqProofs only [hg, hz, av_mk', Int.cast_ofNat_Int, hn, go_sem, simprocAttr] <;> (try simp only [hgW] at hg) | ((first | with_reducible (first | refine AWP.seqRB k10_VsCEncodes fun K hK => ?_ | refine AWP.lastRB k10_VsCEncodes fun K hK => ?_ | refine AWP.seqD (id := 11) k10_VsCEncodes a10_11_VsCEncodes o10_11_VsCEncodes mixed (by kernel_rfl) (by kernel_rfl) fun K hK => ?_ | refine AWP.lastD (id := 11) k10_VsCEncodes a10_11_VsCEncodes o10_11_VsCEncodes mixed (by kernel_rfl) (by kernel_rfl) fun K hK => ?_ | refine AWP.seqC fun Kt Kf hKt hKf => ?_ | refine AWP.condK fun Kt Kf hKt hKf => ?_ | refine retS_ret ?_ | refine retS_end ?_ | refine retSB_ret [] ?_ | refine retSB_end [] ?_ | refine retSF_ret [] ?_ | refine retSF_end [] ?_) | refine callE_P (c28) ?_ | refine callP_intro2 (c28) ?_ | refine callE_X (c28) ?_ | refine callE_P (c25) ?_ | refine callP_intro2 (c25) ?_ | refine callE_X (c25) ?_ | refine callE_P (c19) ?_ | refine callP_intro2 (c19) ?_ | refine callE_X (c19) ?_); simp -implicitDefEqProofs only [hz, av_mk', Int.cast_ofNat_Int, hn, go_sem, simprocAttr])) <;> try simp (disch := omega) only [wrW])
      | with_reducible refine And.intro (by first | omega | (simp only [hgW]; omega)) ?_
      | (exfalso; omega)
    refine ⟨k + 1, ?_, by omega, by omega⟩
    rw [e2]
    simp -implicitDefEqProofs only [Int.cast_ofNat_Int, hn, go_sem, simprocAttr]
    try rfl
theorem entry4 (a b c d : AV) : entry [a, b, c, d] = ⟨lk [(0, a), (1, b), (2, c), (3, d)], lkB [], hasS [], hasS [], hasN [], lkR []⟩ := by
  unfold entry
  congr 1
  funext t
  match t with
  | 0 => rfl
  | 1 => rfl
  | 2 => rfl
  | 3 => rfl
  | k + 4 => simp [lk]
theorem turn_to (z : Int) (n : Nat) (h : 0 < n) (hl : n ≤ 100000) : ∃ k : Nat, IntKind.i64.wrap ((IntKind.u64.wrap z).tmod (n : Int)) = (k : Int) ∧ k < n := by
  have h0 : 0 ≤ IntKind.u64.wrap z := by
    simp [IntKind.wrap, IntKind.bits, IntKind.signed]
    omega
  obtain ⟨m, hm⟩ := Int.eq_ofNat_of_zero_le h0
  rw [hm]
  have : ((m : Nat) : Int).tmod (n : Int) = ((m % n : Nat) : Int) := by
    rw [Int.tmod_eq_emod_of_nonneg (by omega)]; rfl
  have h2 := Nat.mod_lt m h
  refine ⟨m % n, ?_, h2⟩
  show IntKind.i64.wrap (((m : Nat) : Int).tmod (n : Int)) = _
  rw [this]
  have h3 : ((m % n : Nat) : Int) < 100000 := by omega
  generalize m % n = j at *
  have h4 : ¬ (9223372036854775808 : Int) ≤ (j : Int) % 18446744073709551616 := by omega
  simp [IntKind.wrap, IntKind.bits, IntKind.signed, h4]
  omega
theorem made_kn (d : Nat) (p : CI) : (madeS d p).kn = (madeS d p).ks.isEmpty := by
  have leaf : ∀ p, (leafS p).kn = (leafS p).ks.isEmpty := fun p => by
    obtain ⟨k, n, bn, b, h⟩ := leaf_shape p
    rw [h]; rfl
  cases d with
  | zero => exact leaf p
  | succ d =>
    simp only [madeS]
    (repeat' split) <;> first | rfl | exact leaf p
theorem fit_kids {e k n : Nat} {bn : Bool} {b : List UInt8} {kn kn' : Bool} {ks ks' : List CI} (h : Fit (e + 1) (.mk k n bn b kn ks)) (hl : ks'.length ≤ ks.length) (hm : ∀ y ∈ ks', Fit e y) : Fit (e + 1) (.mk k n bn b kn' ks') := by
  obtain ⟨⟨h1, h2, h3, h4, h5⟩, _⟩ := h
  exact ⟨⟨h1, h2, h3, by show ks'.length ≤ 100000; have : ks.length ≤ 100000 := h4; omega, h5⟩, hm⟩
theorem f10_ok (y p : CI) (hy : PlanD 60 y) (hp : PlanD 6 p) (at_ : Int) (kind : UInt8) : CallsP Tryd.prog 10 [y.av, p.av, .int .i64 at_, .int .u8 (kind.toNat : Int)] (.bool true) := by
  have c20 := made_own 5 (by decide) p hp
  have hf := made_fit 60 5 p hp
  have hkn := made_kn 5 p
  generalize madeS 5 p = x at *
  obtain ⟨pk, pn, pbn, pb, pkn, pks⟩ := p
  obtain ⟨yk, yn, ybn, yb, ykn, yks⟩ := y
  rcases c20 with c20 | ⟨c20, xk, xn, xbn, xb, rfl⟩
  · obtain ⟨xk, xn, xbn, xb, xkn, xks⟩ := x
    simp only [CI.kn, CI.ks] at hkn
    subst hkn
    simp only [av_mk', CI.own] at c20
    rw [av_mk', av_mk']
    by_cases h0 : xks = []
    · subst h0
      refine CallsP.intro Tryd.func10 rfl (by show 4 ≤ 90; decide) ?_
      rintro X hX
      have hn : X.n = 90 := hX
      unfold Tryd.f10
      dsimp only
      rw [entry4]
      repeat' first
        | (with_reducible refine markE 12 ?_)
        | with_reducible (first | refine AWP.seqA ?_ | refine AWP.seqB ?_ | refine AWP.block ?_ | refine AWP.skipN ?_ | refine AWP.skip ?_ | refine AWP.exit ?_ | refine AWP.ret ?_ | refine LoopN.succ ?_ | refine thenS_n ?_ | refine thenS_x ?_ | refine thenS_r ?_ | refine blockS_n ?_ | refine blockS_r ?_ | refine blockS_x ?_ | refine blockS_y (by decide) ?_)
        | ((with_reducible refine hK _ ?_); clear hK K) | ((with_reducible refine hKt ?_); clear hKt hKf Kt Kf) | ((with_reducible refine hKf ?_); clear hKt hKf Kt Kf) | ((with_reducible refine condP_split (fun hg => hKt ?_) (fun hg => hKf ?_)) <;> clear hKt hKf Kt Kf <;> (try simp only [hgW] at hg) <;> try (exfalso; omega))
        | ((first | (with_reducible refine guardP_split (fun hg => ?_) (fun hg => ?_)) <;> simp -implicitDefEqProofs only [hg, av_mk', Int.cast_ofNat_Int, hn, go_sem, simprocAttr] <;> (try simp only [hgW] at hg) | ((first | with_reducible (first | refine AWP.seqRB k10_VsCEncodes fun K hK => ?_ | refine AWP.lastRB k10_VsCEncodes fun K hK => ?_ | refine AWP.seqD (id := 11) k10_VsCEncodes a10_11_VsCEncodes o10_11_VsCEncodes mixed (by kernel_rfl) (by kernel_rfl) fun K hK => ?_ | refine AWP.lastD (id := 11) k10_VsCEncodes a10_11_VsCEncodes o10_11_VsCEncodes mixed (by kernel_rfl) (by kernel_rfl) fun K hK => ?_ | refine AWP.seqC fun Kt Kf hKt hKf => ?_ | refine AWP.condK fun Kt Kf hKt hKf => ?_ | refine retS_ret ?_ | refine retS_end ?_) | refine callE_P (f17_ok) ?_ | refine callP_intro2 (f17_ok) ?_ | refine callE_X (f17_ok) ?_ | refine callE_P (c20) ?_ | refine callP_intro2 (c20) ?_ | refine callE_X (c20) ?_); simp -implicitDefEqProofs only [av_mk', Int.cast_ofNat_Int, hn, go_sem, simprocAttr])) <;> try simp (disch := omega) only [wrW])
        | with_reducible refine And.intro (by first | omega | (simp only [hgW]; omega)) ?_
        | (exfalso; omega)
      unfold MarkQ
      refine AWP.slim [4, 8, 9] [5] ?_
      simp -implicitDefEqProofs only [Int.cast_ofNat_Int, hn, go_sem, simprocAttr]
      exact tail10 X hn 1000021 _ (.mk yk yn ybn yb ykn yks) (fit_plan 60 _ hf) hy
    have h0e : xks.isEmpty = false := by
      cases xks with
      | nil => exact absurd rfl h0
      | cons => rfl
    have h0l : 0 < xks.length := by
      cases xks with
      | nil => exact absurd rfl h0
      | cons => simp
    rw [h0e] at c20
    have hxl : xks.length ≤ 100000 := hf.here.2.2.2.1
    obtain ⟨k, hk, hkl⟩ := turn_to at_ xks.length h0l hxl
    obtain ⟨o, ho⟩ : ∃ o, xks.getD k default = o := ⟨_, rfl⟩
    have hom : o ∈ xks := by
      rw [← ho, List.getD_eq_getElem?_getD, List.getElem?_eq_getElem hkl]; exact List.getElem_mem hkl
    obtain ⟨m, hm, hm3⟩ : ∃ m : Nat, (kind.toNat : Int) % 3 = (m : Int) ∧ m < 3 := ⟨kind.toNat % 3, by omega, by omega⟩
    rcases (show m = 0 ∨ m = 1 ∨ m = 2 by omega) with rfl | rfl | rfl
    · obtain ⟨q, hq, hq12⟩ : ∃ q : Nat, (kind.toNat : Int) % 12 = (q : Int) ∧ q < 12 := ⟨kind.toNat % 12, by omega, by omega⟩
      obtain ⟨ok, on, obn, ob, okn, oks⟩ := o
      refine CallsP.intro Tryd.func10 rfl (by show 4 ≤ 90; decide) ?_
      rintro X hX
      have hn : X.n = 90 := hX
      unfold Tryd.f10
      dsimp only
      rw [entry4]
      repeat' first
        | (with_reducible refine markE 12 ?_)
        | with_reducible (first | refine AWP.seqA ?_ | refine AWP.seqB ?_ | refine AWP.block ?_ | refine AWP.skipN ?_ | refine AWP.skip ?_ | refine AWP.exit ?_ | refine AWP.ret ?_ | refine LoopN.succ ?_ | refine thenS_n ?_ | refine thenS_x ?_ | refine thenS_r ?_ | refine blockS_n ?_ | refine blockS_r ?_ | refine blockS_x ?_ | refine blockS_y (by decide) ?_)
        | ((with_reducible refine hK _ ?_); clear hK K) | ((with_reducible refine hKt ?_); clear hKt hKf Kt Kf) | ((with_reducible refine hKf ?_); clear hKt hKf Kt Kf) | ((with_reducible refine condP_split (fun hg => hKt ?_) (fun hg => hKf ?_)) <;> clear hKt hKf Kt Kf <;> (try simp only [hgW] at hg) <;> try (exfalso; omega))
        | ((first | (with_reducible refine guardP_split (fun hg => ?_) (fun hg => ?_)) <;> simp -implicitDefEqProofs only [hg, av_mk', hk, hm, ho, Int.cast_ofNat_Int, hn, go_sem, simprocAttr] <;> (try simp only [hgW] at hg) | ((first | with_reducible (first | refine AWP.seqRB k10_VsCEncodes fun K hK => ?_ | refine AWP.lastRB k10_VsCEncodes fun K hK => ?_ | refine AWP.seqD (id := 11) k10_VsCEncodes a10_11_VsCEncodes o10_11_VsCEncodes mixed (by kernel_rfl) (by kernel_rfl) fun K hK => ?_ | refine AWP.lastD (id := 11) k10_VsCEncodes a10_11_VsCEncodes o10_11_VsCEncodes mixed (by kernel_rfl) (by kernel_rfl) fun K hK => ?_ | refine AWP.seqC fun Kt Kf hKt hKf => ?_ | refine AWP.condK fun Kt Kf hKt hKf => ?_ | refine retS_ret ?_ | refine retS_end ?_) | refine callE_P (f17_ok) ?_ | refine callP_intro2 (f17_ok) ?_ | refine callE_X (f17_ok) ?_ | refine callE_P (c20) ?_ | refine callP_intro2 (c20) ?_ | refine callE_X (c20) ?_); simp -implicitDefEqProofs only [av_mk', hk, hm, ho, Int.cast_ofNat_Int, hn, go_sem, simprocAttr])) <;> try simp (disch := omega) only [wrW])
        | with_reducible refine And.intro (by first | omega | (simp only [hgW]; omega)) ?_
        | (exfalso; omega)
      unfold MarkQ
      refine AWP.slim [4, 8, 9] [5] ?_
      have es : (xks.map CI.av).set k (.agg [.int .u8 (q : Int), .int .u64 (on : Int), .sl none obn 1 (ob.map u8), .sl none okn 4 (oks.map CI.av)]) = (xks.set k (.mk q on obn ob okn oks)).map CI.av := by
        rw [List.map_set, av_mk']
      have hfo : Fit 59 (.mk q on obn ob okn oks) := by
        obtain ⟨⟨h1, h2⟩, h3⟩ := hf.2 _ hom
        exact ⟨⟨by show q < 256; omega, h2⟩, h3⟩
      simp -implicitDefEqProofs only [hq, es, Int.cast_ofNat_Int, hn, go_sem, simprocAttr]
      exact tail10 X hn 1000021 (.mk xk xn xbn xb false (xks.set k (.mk q on obn ob okn oks))) (.mk yk yn ybn yb ykn yks) (fit_plan 60 _ (fit_kids hf (by rw [List.length_set]; exact Nat.le_refl _) (fun y hy => by
        rcases List.mem_or_eq_of_mem_set hy with hy | rfl
        · exact hf.2 y hy
        · exact hfo))) hy
    · refine CallsP.intro Tryd.func10 rfl (by show 4 ≤ 90; decide) ?_
      rintro X hX
      have hn : X.n = 90 := hX
      unfold Tryd.f10
      dsimp only
      rw [entry4]
      repeat' first
        | (with_reducible refine markE 12 ?_)
        | with_reducible (first | refine AWP.seqA ?_ | refine AWP.seqB ?_ | refine AWP.block ?_ | refine AWP.skipN ?_ | refine AWP.skip ?_ | refine AWP.exit ?_ | refine AWP.ret ?_ | refine LoopN.succ ?_ | refine thenS_n ?_ | refine thenS_x ?_ | refine thenS_r ?_ | refine blockS_n ?_ | refine blockS_r ?_ | refine blockS_x ?_ | refine blockS_y (by decide) ?_)
        | ((with_reducible refine hK _ ?_); clear hK K) | ((with_reducible refine hKt ?_); clear hKt hKf Kt Kf) | ((with_reducible refine hKf ?_); clear hKt hKf Kt Kf) | ((with_reducible refine condP_split (fun hg => hKt ?_) (fun hg => hKf ?_)) <;> clear hKt hKf Kt Kf <;> (try simp only [hgW] at hg) <;> try (exfalso; omega))
        | ((first | (with_reducible refine guardP_split (fun hg => ?_) (fun hg => ?_)) <;> simp -implicitDefEqProofs only [hg, av_mk', hk, hm, Int.cast_ofNat_Int, hn, go_sem, simprocAttr] <;> (try simp only [hgW] at hg) | ((first | with_reducible (first | refine AWP.seqRB k10_VsCEncodes fun K hK => ?_ | refine AWP.lastRB k10_VsCEncodes fun K hK => ?_ | refine AWP.seqD (id := 11) k10_VsCEncodes a10_11_VsCEncodes o10_11_VsCEncodes mixed (by kernel_rfl) (by kernel_rfl) fun K hK => ?_ | refine AWP.lastD (id := 11) k10_VsCEncodes a10_11_VsCEncodes o10_11_VsCEncodes mixed (by kernel_rfl) (by kernel_rfl) fun K hK => ?_ | refine AWP.seqC fun Kt Kf hKt hKf => ?_ | refine AWP.condK fun Kt Kf hKt hKf => ?_ | refine retS_ret ?_ | refine retS_end ?_) | refine callE_P (f17_ok) ?_ | refine callP_intro2 (f17_ok) ?_ | refine callE_X (f17_ok) ?_ | refine callE_P (c20) ?_ | refine callP_intro2 (c20) ?_ | refine callE_X (c20) ?_); simp -implicitDefEqProofs only [av_mk', hk, hm, Int.cast_ofNat_Int, hn, go_sem, simprocAttr])) <;> try simp (disch := omega) only [wrW])
        | with_reducible refine And.intro (by first | omega | (simp only [hgW]; omega)) ?_
        | (exfalso; omega)
      unfold MarkQ
      refine AWP.slim [4, 8, 9] [5] ?_
      have es : (xks.take k).map CI.av ++ (xks.drop ((k : Int) + 1).toNat).map CI.av = (xks.take k ++ xks.drop (k + 1)).map CI.av := by
        rw [List.map_append, show ((k : Int) + 1).toNat = k + 1 by omega]
      simp -implicitDefEqProofs only [es, Int.cast_ofNat_Int, hn, go_sem, simprocAttr]
      exact tail10 X hn 1000021 (.mk xk xn xbn xb false (xks.take k ++ xks.drop (k + 1))) (.mk yk yn ybn yb ykn yks) (fit_plan 60 _ (fit_kids hf (by rw [List.length_append, List.length_take, List.length_drop]; omega) (fun y hy => by
        rcases List.mem_append.1 hy with hy | hy
        · exact hf.2 y (List.mem_of_mem_take hy)
        · exact hf.2 y (List.mem_of_mem_drop hy)))) hy
    · refine CallsP.intro Tryd.func10 rfl (by show 4 ≤ 90; decide) ?_
      rintro X hX
      have hn : X.n = 90 := hX
      unfold Tryd.f10
      dsimp only
      rw [entry4]
      repeat' first
        | (with_reducible refine markE 12 ?_)
        | with_reducible (first | refine AWP.seqA ?_ | refine AWP.seqB ?_ | refine AWP.block ?_ | refine AWP.skipN ?_ | refine AWP.skip ?_ | refine AWP.exit ?_ | refine AWP.ret ?_ | refine LoopN.succ ?_ | refine thenS_n ?_ | refine thenS_x ?_ | refine thenS_r ?_ | refine blockS_n ?_ | refine blockS_r ?_ | refine blockS_x ?_ | refine blockS_y (by decide) ?_)
        | ((with_reducible refine hK _ ?_); clear hK K) | ((with_reducible refine hKt ?_); clear hKt hKf Kt Kf) | ((with_reducible refine hKf ?_); clear hKt hKf Kt Kf) | ((with_reducible refine condP_split (fun hg => hKt ?_) (fun hg => hKf ?_)) <;> clear hKt hKf Kt Kf <;> (try simp only [hgW] at hg) <;> try (exfalso; omega))
        | ((first | (with_reducible refine guardP_split (fun hg => ?_) (fun hg => ?_)) <;> simp -implicitDefEqProofs only [hg, av_mk', hk, hm, Int.cast_ofNat_Int, hn, go_sem, simprocAttr] <;> (try simp only [hgW] at hg) | ((first | with_reducible (first | refine AWP.seqRB k10_VsCEncodes fun K hK => ?_ | refine AWP.lastRB k10_VsCEncodes fun K hK => ?_ | refine AWP.seqD (id := 11) k10_VsCEncodes a10_11_VsCEncodes o10_11_VsCEncodes mixed (by kernel_rfl) (by kernel_rfl) fun K hK => ?_ | refine AWP.lastD (id := 11) k10_VsCEncodes a10_11_VsCEncodes o10_11_VsCEncodes mixed (by kernel_rfl) (by kernel_rfl) fun K hK => ?_ | refine AWP.seqC fun Kt Kf hKt hKf => ?_ | refine AWP.condK fun Kt Kf hKt hKf => ?_ | refine retS_ret ?_ | refine retS_end ?_) | refine callE_P (f17_ok) ?_ | refine callP_intro2 (f17_ok) ?_ | refine callE_X (f17_ok) ?_ | refine callE_P (c20) ?_ | refine callP_intro2 (c20) ?_ | refine callE_X (c20) ?_); simp -implicitDefEqProofs only [av_mk', hk, hm, Int.cast_ofNat_Int, hn, go_sem, simprocAttr])) <;> try simp (disch := omega) only [wrW])
        | with_reducible refine And.intro (by first | omega | (simp only [hgW]; omega)) ?_
        | (exfalso; omega)
      unfold MarkQ
      refine AWP.slim [4, 8, 9] [5] ?_
      simp -implicitDefEqProofs only [Int.cast_ofNat_Int, hn, go_sem, simprocAttr]
      exact tail10 X hn 1000021 (.mk xk xn xbn xb false xks) (.mk yk yn ybn yb ykn yks) (fit_plan 60 _ (fit_kids hf (Nat.le_refl _) hf.2)) hy
  · simp only [av_mk'] at c20
    rw [av_mk', av_mk']
    refine CallsP.intro Tryd.func10 rfl (by show 4 ≤ 90; decide) ?_
    rintro X hX
    have hn : X.n = 90 := hX
    unfold Tryd.f10
    dsimp only
    rw [entry4]
    repeat' first
      | (with_reducible refine markE 12 ?_)
      | with_reducible (first | refine AWP.seqA ?_ | refine AWP.seqB ?_ | refine AWP.block ?_ | refine AWP.skipN ?_ | refine AWP.skip ?_ | refine AWP.exit ?_ | refine AWP.ret ?_ | refine LoopN.succ ?_ | refine thenS_n ?_ | refine thenS_x ?_ | refine thenS_r ?_ | refine blockS_n ?_ | refine blockS_r ?_ | refine blockS_x ?_ | refine blockS_y (by decide) ?_)
      | ((with_reducible refine hK _ ?_); clear hK K) | ((with_reducible refine hKt ?_); clear hKt hKf Kt Kf) | ((with_reducible refine hKf ?_); clear hKt hKf Kt Kf) | ((with_reducible refine condP_split (fun hg => hKt ?_) (fun hg => hKf ?_)) <;> clear hKt hKf Kt Kf <;> (try simp only [hgW] at hg) <;> try (exfalso; omega))
      | ((first | (with_reducible refine guardP_split (fun hg => ?_) (fun hg => ?_)) <;> simp -implicitDefEqProofs only [hg, av_mk', Int.cast_ofNat_Int, hn, go_sem, simprocAttr] <;> (try simp only [hgW] at hg) | ((first | with_reducible (first | refine AWP.seqRB k10_VsCEncodes fun K hK => ?_ | refine AWP.lastRB k10_VsCEncodes fun K hK => ?_ | refine AWP.seqD (id := 11) k10_VsCEncodes a10_11_VsCEncodes o10_11_VsCEncodes mixed (by kernel_rfl) (by kernel_rfl) fun K hK => ?_ | refine AWP.lastD (id := 11) k10_VsCEncodes a10_11_VsCEncodes o10_11_VsCEncodes mixed (by kernel_rfl) (by kernel_rfl) fun K hK => ?_ | refine AWP.seqC fun Kt Kf hKt hKf => ?_ | refine AWP.condK fun Kt Kf hKt hKf => ?_ | refine retS_ret ?_ | refine retS_end ?_) | refine callE_P (f17_ok) ?_ | refine callP_intro2 (f17_ok) ?_ | refine callE_X (f17_ok) ?_ | refine callE_P (c20) ?_ | refine callP_intro2 (c20) ?_ | refine callE_X (c20) ?_); simp -implicitDefEqProofs only [av_mk', Int.cast_ofNat_Int, hn, go_sem, simprocAttr])) <;> try simp (disch := omega) only [wrW])
      | with_reducible refine And.intro (by first | omega | (simp only [hgW]; omega)) ?_
      | (exfalso; omega)
    unfold MarkQ
    refine AWP.adoptB 9 3 (0, 999) 0 4 (by rfl) (by rfl) ?_
    refine AWP.slim [4, 8, 9] [5] ?_
    simp -implicitDefEqProofs only [Int.cast_ofNat_Int, hn, go_sem, simprocAttr]
    exact tail10 X hn 999 _ _ (fit_plan 60 _ hf) hy
end Go.Proofs.YtijcpdgfbboamaaDoor
