/- The law CborTurned's code answers true for any plan, and whatever bytes are turned or left out. -/
import Derived.Test.YtijcpdgfbboamaaDoorVsCTold2
import Derived.Test.YtijcpdgfbboamaaDoorVsCMade2
import Derived.Test.YtijcpdgfbboamaaDoorVsCRWE
import Derived.Test.YtijcpdgfbboamaaDoorVsCMadeF
import Derived.Test.YtijcpdgfbboamaaDoorVsCEncV
open Go Go.VS
namespace Go.Proofs.YtijcpdgfbboamaaDoor
set_option linter.unusedVariables false
set_option linter.unusedSimpArgs false
set_option maxRecDepth 20000
set_option maxHeartbeats 4000000
theorem enc_nil {valid : List UInt8 → Bool} {x : CI} {c : List UInt8} {er : Nat} (h : encS valid x = (c, er)) (he : er ≠ 0) : c = [] := by
  unfold encS at h
  simp only at h
  (repeat' split at h) <;> cases h <;> first | rfl | exact absurd rfl he
theorem turn_at (z : Int) (b : List UInt8) (h : 0 < b.length) (hl : b.length ≤ 8192) : ∃ k : Nat, IntKind.i64.wrap ((IntKind.u64.wrap z).tmod (b.length : Int)) = (k : Int) ∧ k < b.length := by
  have h0 : 0 ≤ IntKind.u64.wrap z := by
    simp [IntKind.wrap, IntKind.bits, IntKind.signed]
    omega
  obtain ⟨n, hn⟩ := Int.eq_ofNat_of_zero_le h0
  rw [hn]
  have : ((n : Nat) : Int).tmod (b.length : Int) = ((n % b.length : Nat) : Int) := by
    rw [Int.tmod_eq_emod_of_nonneg (by omega)]; rfl
  have h2 := Nat.mod_lt n h
  refine ⟨n % b.length, ?_, h2⟩
  show IntKind.i64.wrap (((n : Nat) : Int).tmod (b.length : Int)) = _
  rw [this]
  have h3 : ((n % b.length : Nat) : Int) < 8192 := by omega
  generalize n % b.length = j at *
  have h4 : ¬ (9223372036854775808 : Int) ≤ (j : Int) % 18446744073709551616 := by omega
  simp [IntKind.wrap, IntKind.bits, IntKind.signed, h4]
  omega
theorem turn_byte (x y : Int) : ∃ t : UInt8, bitop .xor .u8 x y = (t.toNat : Int) := by
  have w : ∀ n : Int, ∃ t : UInt8, IntKind.u8.wrap n = (t.toNat : Int) := fun n => by
    have h : IntKind.u8.wrap n = n % 256 := by simp [IntKind.wrap, IntKind.bits, IntKind.signed]
    refine ⟨UInt8.ofNat (n % 256).toNat, ?_⟩
    rw [h, UInt8.toNat_ofNat']
    omega
  unfold bitop
  exact w _
theorem f4_ok (p : CI) (hp : PlanD 6 p) (na : Bool) (zs : List Int) (nb : Bool) (bits : List UInt8) (ha : na = true → zs = []) (hb : nb = true → bits = []) (hal : zs.length ≤ 9223372036854775807) (hbl : bits.length ≤ 9223372036854775807) :
    CallsP Tryd.prog 4 [p.av, .sl none na 1 (zs.map (AV.int .i64)), .sl none nb 1 (bits.map u8)] (.bool true) := by
  have c20 := made_ok 5 (by decide) p hp
  have hf := made_fit 8 5 p hp
  have c19 := f19_own validI (madeS 5 p) hf
  generalize madeS 5 p = x at *
  obtain ⟨c, er, hc⟩ : ∃ c er, encS Go.Lib.validD x = (c, er) := ⟨_, _, rfl⟩
  rw [hc] at c19
  simp only at c19
  obtain ⟨pk, pn, pbn, pb, pkn, pks⟩ := p
  obtain ⟨xk, xn, xbn, xb, xkn, xks⟩ := x
  simp only [av_mk', bytesOwn] at *
  by_cases h0 : er = 0
  · subst h0
    have hce := enc_ne hc
    have hcn := enc_len hc
    rw [hce] at c19
    simp only [cond_false] at c19
    refine CallsP.intro Tryd.func4 rfl (by show 3 ≤ 81; decide) ?_
    rintro X hX
    have hn : X.n = 81 := hX
    unfold Tryd.f4
    dsimp only
    rw [entry3]
    repeat' first
      | with_reducible (first | refine AWP.seqA ?_ | refine AWP.seqB ?_ | refine AWP.block ?_ | refine AWP.skipN ?_ | refine AWP.skip ?_ | refine AWP.exit ?_ | refine AWP.ret ?_ | refine LoopN.succ ?_ | refine thenS_n ?_ | refine thenS_x ?_ | refine thenS_r ?_ | refine blockS_n ?_ | refine blockS_r ?_ | refine blockS_x ?_ | refine blockS_y (by decide) ?_)
      | ((with_reducible refine hK _ ?_); clear hK K) | ((with_reducible refine hKt ?_); clear hKt hKf Kt Kf) | ((with_reducible refine hKf ?_); clear hKt hKf Kt Kf) | ((with_reducible refine condP_split (fun hg => hKt ?_) (fun hg => hKf ?_)) <;> clear hKt hKf Kt Kf <;> (try simp only [hgW] at hg) <;> try (exfalso; omega))
      | ((first | (with_reducible refine guardP_split (fun hg => ?_) (fun hg => ?_)) <;> simp -implicitDefEqProofs only [hg, av_mk', Int.cast_ofNat_Int, hn, go_sem, simprocAttr] <;> (try simp only [hgW] at hg) | ((first | with_reducible (first | refine AWP.seqRB [0,1,2,3,6,7,8,9,10,12,20,39,57] fun K hK => ?_ | refine AWP.lastRB [0,1,2,3,6,7,8,9,10,12,20,39,57] fun K hK => ?_ | refine AWP.seqD (id := 11) [0,1,2,3,6,7,8,9,10,12,20,39,57] [0,0,0,7,0,0,32,112,255,511] [0,1,2,3,4,5,6,7,8,9] mixed (by kernel_rfl) (by kernel_rfl) fun K hK => ?_ | refine AWP.lastD (id := 11) [0,1,2,3,6,7,8,9,10,12,20,39,57] [0,0,0,7,0,0,32,112,255,511] [0,1,2,3,4,5,6,7,8,9] mixed (by kernel_rfl) (by kernel_rfl) fun K hK => ?_ | refine AWP.seqD (id := 12) [0,1,2,3,6,7,8,9,10,12,20,39,57] [0,0,3,7,0,0,48,112,240,496,1023,2047,4095] [0,1,2,3,4,5,6,7,8,9,10,11,12] mixed (by kernel_rfl) (by kernel_rfl) fun K hK => ?_ | refine AWP.lastD (id := 12) [0,1,2,3,6,7,8,9,10,12,20,39,57] [0,0,3,7,0,0,48,112,240,496,1023,2047,4095] [0,1,2,3,4,5,6,7,8,9,10,11,12] mixed (by kernel_rfl) (by kernel_rfl) fun K hK => ?_ | refine AWP.seqC fun Kt Kf hKt hKf => ?_ | refine AWP.condK fun Kt Kf hKt hKf => ?_ | refine retS_ret ?_ | refine retS_end ?_ | refine retSB_ret [] ?_ | refine retSB_end [] ?_ | refine retSF_ret [] ?_ | refine retSF_end [] ?_) | refine callE_P (f17_ok) ?_ | refine callP_intro2 (f17_ok) ?_ | refine callE_X (f17_ok) ?_ | refine callE_P (c20) ?_ | refine callP_intro2 (c20) ?_ | refine callE_X (c20) ?_ | refine callE_P (c19) ?_ | refine callP_intro2 (c19) ?_ | refine callE_X (c19) ?_); simp -implicitDefEqProofs only [av_mk', Int.cast_ofNat_Int, hn, go_sem, simprocAttr])) <;> try simp (disch := omega) only [wrW])
      | with_reducible refine And.intro (by first | omega | (simp only [hgW]; omega)) ?_
      | (exfalso; omega)
    refine AWP.loopX [1, 2, 6, 7, 9] [3] (fun x : Nat × Nat × List UInt8 => St.mk (lk [(1, .sl none na 1 (zs.map (AV.int .i64))), (2, .sl none nb 1 (bits.map u8)), (6, .bool false), (7, .sl (some ((0, x.2.1), 0)) false 1 (x.2.2.map u8)), (9, .int .i64 (x.1 : Int))])
        (lkB []) (hasS []) (hasS []) (hasN []) (lkR [])) (fun x => x.1 ≤ 4 ∧ x.2.2.length ≤ 8192) (fun x => 4 - x.1) (0, 1000016, c) ?_ ⟨Nat.zero_le _, hcn⟩ ?_
    · simp -implicitDefEqProofs only [Int.cast_ofNat_Int, hn, go_sem, simprocAttr]
      try rfl
    rintro ⟨i, g, b⟩ ⟨hi, hl⟩
    simp only at hi hl ⊢
    by_cases hx : i < zs.length ∧ i < bits.length ∧ i < 4 ∧ 0 < b.length
    · obtain ⟨x1, x2, x3, x4⟩ := hx
      obtain ⟨z, hz⟩ : ∃ z, zs.getD i default = z := ⟨_, rfl⟩
      obtain ⟨e, he⟩ : ∃ e, u8 (bits.getD i default) = .int .u8 ((e : UInt8).toNat : Int) := ⟨_, rfl⟩
      obtain ⟨k, hk, hkl⟩ := turn_at z b x4 hl
      obtain ⟨m, hm, hm9⟩ : ∃ m : Nat, (e.toNat : Int) % 9 = (m : Int) ∧ m < 9 := ⟨e.toNat % 9, by omega, by omega⟩
      by_cases h8 : m = 8
      · subst h8
        repeat' first
          | with_reducible (first | refine AWP.seqA ?_ | refine AWP.seqB ?_ | refine AWP.block ?_ | refine AWP.skipN ?_ | refine AWP.skip ?_ | refine AWP.exit ?_ | refine AWP.ret ?_ | refine LoopN.succ ?_ | refine thenS_n ?_ | refine thenS_x ?_ | refine thenS_r ?_ | refine blockS_n ?_ | refine blockS_r ?_ | refine blockS_x ?_ | refine blockS_y (by decide) ?_)
          | ((with_reducible refine hK _ ?_); clear hK K) | ((with_reducible refine hKt ?_); clear hKt hKf Kt Kf) | ((with_reducible refine hKf ?_); clear hKt hKf Kt Kf) | ((with_reducible refine condP_split (fun hg => hKt ?_) (fun hg => hKf ?_)) <;> clear hKt hKf Kt Kf <;> (try simp only [hgW] at hg) <;> try (exfalso; omega))
          | ((first | (with_reducible refine guardP_split (fun hg => ?_) (fun hg => ?_)) <;> simp -implicitDefEqProofs only [hg, hz, he, hk, hm, Int.cast_ofNat_Int, hn, go_sem, simprocAttr] <;> (try simp only [hgW] at hg) | ((first | with_reducible (first | refine AWP.seqRB [0,1,2,3,6,7,8,9,10,12,20,39,57] fun K hK => ?_ | refine AWP.lastRB [0,1,2,3,6,7,8,9,10,12,20,39,57] fun K hK => ?_ | refine AWP.seqD (id := 11) [0,1,2,3,6,7,8,9,10,12,20,39,57] [0,0,0,7,0,0,32,112,255,511] [0,1,2,3,4,5,6,7,8,9] mixed (by kernel_rfl) (by kernel_rfl) fun K hK => ?_ | refine AWP.lastD (id := 11) [0,1,2,3,6,7,8,9,10,12,20,39,57] [0,0,0,7,0,0,32,112,255,511] [0,1,2,3,4,5,6,7,8,9] mixed (by kernel_rfl) (by kernel_rfl) fun K hK => ?_ | refine AWP.seqD (id := 12) [0,1,2,3,6,7,8,9,10,12,20,39,57] [0,0,3,7,0,0,48,112,240,496,1023,2047,4095] [0,1,2,3,4,5,6,7,8,9,10,11,12] mixed (by kernel_rfl) (by kernel_rfl) fun K hK => ?_ | refine AWP.lastD (id := 12) [0,1,2,3,6,7,8,9,10,12,20,39,57] [0,0,3,7,0,0,48,112,240,496,1023,2047,4095] [0,1,2,3,4,5,6,7,8,9,10,11,12] mixed (by kernel_rfl) (by kernel_rfl) fun K hK => ?_ | refine AWP.seqC fun Kt Kf hKt hKf => ?_ | refine AWP.condK fun Kt Kf hKt hKf => ?_ | refine retS_ret ?_ | refine retS_end ?_ | refine retSB_ret [] ?_ | refine retSB_end [] ?_ | refine retSF_ret [] ?_ | refine retSF_end [] ?_)); simp -implicitDefEqProofs only [hz, he, hk, hm, Int.cast_ofNat_Int, hn, go_sem, simprocAttr])) <;> try simp (disch := omega) only [wrW])
          | with_reducible refine And.intro (by first | omega | (simp only [hgW]; omega)) ?_
          | (exfalso; omega)
        refine ⟨(i + 1, g, b.take k ++ b.drop (k + 1)), ?_, ⟨by show i + 1 ≤ 4; omega, ?_⟩, by show 4 - (i + 1) < 4 - i; omega⟩
        · rw [show ((k : Int) + 1).toNat = k + 1 by omega, ← List.map_append, show (i : Int) + 1 = ((i + 1 : Nat) : Int) by omega]
          simp -implicitDefEqProofs only [Int.cast_ofNat_Int, hn, go_sem, simprocAttr]
          try rfl
        · show (b.take k ++ b.drop (k + 1)).length ≤ 8192
          rw [List.length_append, List.length_take, List.length_drop]
          omega
      obtain ⟨y, hy⟩ : ∃ y, u8 (b.getD k default) = .int .u8 ((y : UInt8).toNat : Int) := ⟨_, rfl⟩
      obtain ⟨t, ht⟩ := turn_byte (y.toNat : Int) (IntKind.u8.wrap (1 * 2 ^ min m 8))
      repeat' first
        | with_reducible (first | refine AWP.seqA ?_ | refine AWP.seqB ?_ | refine AWP.block ?_ | refine AWP.skipN ?_ | refine AWP.skip ?_ | refine AWP.exit ?_ | refine AWP.ret ?_ | refine LoopN.succ ?_ | refine thenS_n ?_ | refine thenS_x ?_ | refine thenS_r ?_ | refine blockS_n ?_ | refine blockS_r ?_ | refine blockS_x ?_ | refine blockS_y (by decide) ?_)
        | ((with_reducible refine hK _ ?_); clear hK K) | ((with_reducible refine hKt ?_); clear hKt hKf Kt Kf) | ((with_reducible refine hKf ?_); clear hKt hKf Kt Kf) | ((with_reducible refine condP_split (fun hg => hKt ?_) (fun hg => hKf ?_)) <;> clear hKt hKf Kt Kf <;> (try simp only [hgW] at hg) <;> try (exfalso; omega))
        | ((first | (with_reducible refine guardP_split (fun hg => ?_) (fun hg => ?_)) <;> simp -implicitDefEqProofs only [hg, hz, he, hk, hm, hy, ht, Int.cast_ofNat_Int, hn, go_sem, simprocAttr] <;> (try simp only [hgW] at hg) | ((first | with_reducible (first | refine AWP.seqRB [0,1,2,3,6,7,8,9,10,12,20,39,57] fun K hK => ?_ | refine AWP.lastRB [0,1,2,3,6,7,8,9,10,12,20,39,57] fun K hK => ?_ | refine AWP.seqD (id := 11) [0,1,2,3,6,7,8,9,10,12,20,39,57] [0,0,0,7,0,0,32,112,255,511] [0,1,2,3,4,5,6,7,8,9] mixed (by kernel_rfl) (by kernel_rfl) fun K hK => ?_ | refine AWP.lastD (id := 11) [0,1,2,3,6,7,8,9,10,12,20,39,57] [0,0,0,7,0,0,32,112,255,511] [0,1,2,3,4,5,6,7,8,9] mixed (by kernel_rfl) (by kernel_rfl) fun K hK => ?_ | refine AWP.seqD (id := 12) [0,1,2,3,6,7,8,9,10,12,20,39,57] [0,0,3,7,0,0,48,112,240,496,1023,2047,4095] [0,1,2,3,4,5,6,7,8,9,10,11,12] mixed (by kernel_rfl) (by kernel_rfl) fun K hK => ?_ | refine AWP.lastD (id := 12) [0,1,2,3,6,7,8,9,10,12,20,39,57] [0,0,3,7,0,0,48,112,240,496,1023,2047,4095] [0,1,2,3,4,5,6,7,8,9,10,11,12] mixed (by kernel_rfl) (by kernel_rfl) fun K hK => ?_ | refine AWP.seqC fun Kt Kf hKt hKf => ?_ | refine AWP.condK fun Kt Kf hKt hKf => ?_ | refine retS_ret ?_ | refine retS_end ?_ | refine retSB_ret [] ?_ | refine retSB_end [] ?_ | refine retSF_ret [] ?_ | refine retSF_end [] ?_)); simp -implicitDefEqProofs only [hz, he, hk, hm, hy, ht, Int.cast_ofNat_Int, hn, go_sem, simprocAttr])) <;> try simp (disch := omega) only [wrW])
        | with_reducible refine And.intro (by first | omega | (simp only [hgW]; omega)) ?_
        | (exfalso; omega)
      refine ⟨(i + 1, g, b.set k t), ?_, ⟨by show i + 1 ≤ 4; omega, by show (b.set k t).length ≤ 8192; rw [List.length_set]; exact hl⟩, by show 4 - (i + 1) < 4 - i; omega⟩
      have hs : (b.map u8).set k (.int .u8 (t.toNat : Int)) = (b.set k t).map u8 := List.map_set.symm
      rw [hs, show (i : Int) + 1 = ((i + 1 : Nat) : Int) by omega]
      simp -implicitDefEqProofs only [Int.cast_ofNat_Int, hn, go_sem, simprocAttr]
      try rfl
    · have c18 := f18_ok valid_ok false b (fun h => by cases h) (by omega)
      repeat' first
        | with_reducible (first | refine AWP.seqA ?_ | refine AWP.seqB ?_ | refine AWP.block ?_ | refine AWP.skipN ?_ | refine AWP.skip ?_ | refine AWP.exit ?_ | refine AWP.ret ?_ | refine LoopN.succ ?_ | refine thenS_n ?_ | refine thenS_x ?_ | refine thenS_r ?_ | refine blockS_n ?_ | refine blockS_r ?_ | refine blockS_x ?_ | refine blockS_y (by decide) ?_)
        | ((with_reducible refine hK _ ?_); clear hK K) | ((with_reducible refine hKt ?_); clear hKt hKf Kt Kf) | ((with_reducible refine hKf ?_); clear hKt hKf Kt Kf) | ((with_reducible refine condP_split (fun hg => hKt ?_) (fun hg => hKf ?_)) <;> clear hKt hKf Kt Kf <;> (try simp only [hgW] at hg) <;> try (exfalso; omega))
        | ((first | (with_reducible refine guardP_split (fun hg => ?_) (fun hg => ?_)) <;> simp -implicitDefEqProofs only [hg, Int.cast_ofNat_Int, hn, go_sem, simprocAttr] <;> (try simp only [hgW] at hg) | ((first | with_reducible (first | refine AWP.seqRB [0,1,2,3,6,7,8,9,10,12,20,39,57] fun K hK => ?_ | refine AWP.lastRB [0,1,2,3,6,7,8,9,10,12,20,39,57] fun K hK => ?_ | refine AWP.seqD (id := 11) [0,1,2,3,6,7,8,9,10,12,20,39,57] [0,0,0,7,0,0,32,112,255,511] [0,1,2,3,4,5,6,7,8,9] mixed (by kernel_rfl) (by kernel_rfl) fun K hK => ?_ | refine AWP.lastD (id := 11) [0,1,2,3,6,7,8,9,10,12,20,39,57] [0,0,0,7,0,0,32,112,255,511] [0,1,2,3,4,5,6,7,8,9] mixed (by kernel_rfl) (by kernel_rfl) fun K hK => ?_ | refine AWP.seqD (id := 12) [0,1,2,3,6,7,8,9,10,12,20,39,57] [0,0,3,7,0,0,48,112,240,496,1023,2047,4095] [0,1,2,3,4,5,6,7,8,9,10,11,12] mixed (by kernel_rfl) (by kernel_rfl) fun K hK => ?_ | refine AWP.lastD (id := 12) [0,1,2,3,6,7,8,9,10,12,20,39,57] [0,0,3,7,0,0,48,112,240,496,1023,2047,4095] [0,1,2,3,4,5,6,7,8,9,10,11,12] mixed (by kernel_rfl) (by kernel_rfl) fun K hK => ?_ | refine AWP.seqC fun Kt Kf hKt hKf => ?_ | refine AWP.condK fun Kt Kf hKt hKf => ?_ | refine retS_ret ?_ | refine retS_end ?_ | refine retSB_ret [] ?_ | refine retSB_end [] ?_ | refine retSF_ret [] ?_ | refine retSF_end [] ?_) | refine callE_P (c18) ?_ | refine callP_intro2 (c18) ?_ | refine callE_X (c18) ?_); simp -implicitDefEqProofs only [Int.cast_ofNat_Int, hn, go_sem, simprocAttr])) <;> try simp (disch := omega) only [wrW])
        | with_reducible refine And.intro (by first | omega | (simp only [hgW]; omega)) ?_
        | (exfalso; omega)
  · obtain rfl := enc_nil hc h0
    simp only [List.isEmpty_nil, cond_true] at c19
    refine CallsP.intro Tryd.func4 rfl (by show 3 ≤ 81; decide) ?_
    rintro X hX
    have hn : X.n = 81 := hX
    unfold Tryd.f4
    dsimp only
    rw [entry3]
    repeat' first
      | with_reducible (first | refine AWP.seqA ?_ | refine AWP.seqB ?_ | refine AWP.block ?_ | refine AWP.skipN ?_ | refine AWP.skip ?_ | refine AWP.exit ?_ | refine AWP.ret ?_ | refine LoopN.succ ?_ | refine thenS_n ?_ | refine thenS_x ?_ | refine thenS_r ?_ | refine blockS_n ?_ | refine blockS_r ?_ | refine blockS_x ?_ | refine blockS_y (by decide) ?_)
      | ((with_reducible refine hK _ ?_); clear hK K) | ((with_reducible refine hKt ?_); clear hKt hKf Kt Kf) | ((with_reducible refine hKf ?_); clear hKt hKf Kt Kf) | ((with_reducible refine condP_split (fun hg => hKt ?_) (fun hg => hKf ?_)) <;> clear hKt hKf Kt Kf <;> (try simp only [hgW] at hg) <;> try (exfalso; omega))
      | ((first | (with_reducible refine guardP_split (fun hg => ?_) (fun hg => ?_)) <;> simp -implicitDefEqProofs only [hg, av_mk', Int.cast_ofNat_Int, hn, go_sem, simprocAttr] <;> (try simp only [hgW] at hg) | ((first | with_reducible (first | refine AWP.seqRB [0,1,2,3,6,7,8,9,10,12,20,39,57] fun K hK => ?_ | refine AWP.lastRB [0,1,2,3,6,7,8,9,10,12,20,39,57] fun K hK => ?_ | refine AWP.seqD (id := 11) [0,1,2,3,6,7,8,9,10,12,20,39,57] [0,0,0,7,0,0,32,112,255,511] [0,1,2,3,4,5,6,7,8,9] mixed (by kernel_rfl) (by kernel_rfl) fun K hK => ?_ | refine AWP.lastD (id := 11) [0,1,2,3,6,7,8,9,10,12,20,39,57] [0,0,0,7,0,0,32,112,255,511] [0,1,2,3,4,5,6,7,8,9] mixed (by kernel_rfl) (by kernel_rfl) fun K hK => ?_ | refine AWP.seqD (id := 12) [0,1,2,3,6,7,8,9,10,12,20,39,57] [0,0,3,7,0,0,48,112,240,496,1023,2047,4095] [0,1,2,3,4,5,6,7,8,9,10,11,12] mixed (by kernel_rfl) (by kernel_rfl) fun K hK => ?_ | refine AWP.lastD (id := 12) [0,1,2,3,6,7,8,9,10,12,20,39,57] [0,0,3,7,0,0,48,112,240,496,1023,2047,4095] [0,1,2,3,4,5,6,7,8,9,10,11,12] mixed (by kernel_rfl) (by kernel_rfl) fun K hK => ?_ | refine AWP.seqC fun Kt Kf hKt hKf => ?_ | refine AWP.condK fun Kt Kf hKt hKf => ?_ | refine retS_ret ?_ | refine retS_end ?_ | refine retSB_ret [] ?_ | refine retSB_end [] ?_ | refine retSF_ret [] ?_ | refine retSF_end [] ?_) | refine callE_P (f17_ok) ?_ | refine callP_intro2 (f17_ok) ?_ | refine callE_X (f17_ok) ?_ | refine callE_P (c20) ?_ | refine callP_intro2 (c20) ?_ | refine callE_X (c20) ?_ | refine callE_P (c19) ?_ | refine callP_intro2 (c19) ?_ | refine callE_X (c19) ?_); simp -implicitDefEqProofs only [av_mk', Int.cast_ofNat_Int, hn, go_sem, simprocAttr])) <;> try simp (disch := omega) only [wrW])
      | with_reducible refine And.intro (by first | omega | (simp only [hgW]; omega)) ?_
      | (exfalso; omega)
end Go.Proofs.YtijcpdgfbboamaaDoor
