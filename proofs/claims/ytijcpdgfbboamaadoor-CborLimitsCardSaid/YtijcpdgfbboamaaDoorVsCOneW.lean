/- The law CborOne's code answers true for any bytes. -/
import Derived.Test.YtijcpdgfbboamaaDoorVsCOneL
import Derived.Test.YtijcpdgfbboamaaDoorVsCEncE
import Derived.Test.YtijcpdgfbboamaaDoorVsCAwake
open Go Go.VS
namespace Go.Proofs.YtijcpdgfbboamaaDoor
set_option linter.unusedVariables false
set_option linter.unusedSimpArgs false
set_option maxRecDepth 20000
set_option maxHeartbeats 4000000
theorem dec_back {valid : List UInt8 → Bool} {b : List UInt8} {x : CI} {l : Option (List UInt8)} (h : decS valid b = (x, l, 0)) : ∃ c r, l = some r ∧ encS valid x = (c, 0) ∧ c ++ r = b := by
  unfold decS at h
  by_cases hl : 8192 < b.length
  · rw [if_pos hl] at h; cases h
  rw [if_neg hl] at h
  simp only at h
  by_cases he : (itemS valid 8 ⟨b, 0, 0⟩).2.err ≠ 0
  · rw [if_pos he] at h
    have := congrArg (fun p => p.2.2) h
    exact absurd this he
  rw [if_neg he] at h
  have he : (itemS valid 8 ⟨b, 0, 0⟩).2.err = 0 := by simpa using he
  obtain ⟨c, b1, w1⟩ := item_back valid 8 ⟨b, 0, 0⟩ he
  cases h
  refine ⟨c, _, rfl, ?_, b1.symm⟩
  have := w1 ⟨[], 0⟩ rfl
  unfold encS
  simp only
  rw [this]
  simp only
  simp only at b1
  have hlen := congrArg List.length b1
  rw [List.length_append] at hlen
  rw [if_neg (by simp), if_neg (by simp; omega)]
  rfl
theorem dec_fit (valid : List UInt8 → Bool) (b : List UInt8) : Fit 8 (decS valid b).1 := by
  unfold decS
  split
  · exact Fit.zero _
  · simp only
    split
    · exact Fit.zero _
    · exact item_fit valid 8 _ (by simp only; omega)
theorem dec_rest (valid : List UInt8 → Bool) (b : List UInt8) : (decS valid b).2.2 ≠ 0 → (decS valid b).2.1 = none := by
  unfold decS
  split
  · exact fun _ => rfl
  · simp only
    split
    · exact fun _ => rfl
    · exact fun h => absurd rfl h
theorem enc_ne {valid : List UInt8 → Bool} {x : CI} {c : List UInt8} (h : encS valid x = (c, 0)) : c.isEmpty = false := by
  have K := (itemW_keeps valid badO 8).grow x ⟨[], 0⟩
  unfold encS at h
  simp only at h
  split at h
  · rename_i h1
    have := congrArg Prod.snd h
    exact absurd this h1
  · rename_i h1
    split at h
    · cases h
    · have h2 := congrArg Prod.fst h
      simp only at h2
      have := K (by simpa using h1)
      rw [h2] at this
      cases c with
      | nil => simp at this
      | cons => rfl
theorem f44_nil : CallsP Tryd.prog 44 [.sl none true 1 []] (.bool true) := by
  refine CallsP.intro Tryd.func44 rfl (by show 1 ≤ 188; decide) ?_
  rintro X hX
  have hn : X.n = 188 := hX
  unfold Tryd.f44
  dsimp only
  rw [entry1]
  repeat' first
    | with_reducible (first | refine AWP.seqA ?_ | refine AWP.seqB ?_ | refine AWP.block ?_ | refine AWP.skipN ?_ | refine AWP.skip ?_ | refine AWP.exit ?_ | refine AWP.ret ?_ | refine AWP.loopT 1 ?_ | refine AWP.unroll 1 ?_ | refine LoopN.succ ?_ | refine thenS_n ?_ | refine thenS_x ?_ | refine thenS_r ?_ | refine blockS_n ?_ | refine blockS_r ?_ | refine blockS_x ?_ | refine blockS_y (by decide) ?_)
    | ((with_reducible refine hK _ ?_); clear hK K) | ((with_reducible refine hKt ?_); clear hKt hKf Kt Kf) | ((with_reducible refine hKf ?_); clear hKt hKf Kt Kf) | ((with_reducible refine condP_split (fun hg => hKt ?_) (fun hg => hKf ?_)) <;> clear hKt hKf Kt Kf <;> (try simp only [hgW] at hg) <;> try (exfalso; omega))
    | ((first | (with_reducible refine guardP_split (fun hg => ?_) (fun hg => ?_)) <;> simp -implicitDefEqProofs only [hg, Int.cast_ofNat_Int, hn, go_sem, simprocAttr] <;> (try simp only [hgW] at hg) | ((first | with_reducible (first | refine AWP.seqRB [0,2,3,4,5,6,15,20,31,46,69,82,83,103,106,138,141,185] fun K hK => ?_ | refine AWP.lastRB [0,2,3,4,5,6,15,20,31,46,69,82,83,103,106,138,141,185] fun K hK => ?_ | refine AWP.seqD (id := 8) [0,2,3,4,5,6,15,20,31,46,69,82,83,103,106,138,141,185] [0,1,3,7,15,31,15,79,255,511,1023,2047,4095] [0,1,2,3,4,5,6,7,8,9,10,11,12] mixed (by kernel_rfl) (by kernel_rfl) fun K hK => ?_ | refine AWP.lastD (id := 8) [0,2,3,4,5,6,15,20,31,46,69,82,83,103,106,138,141,185] [0,1,3,7,15,31,15,79,255,511,1023,2047,4095] [0,1,2,3,4,5,6,7,8,9,10,11,12] mixed (by kernel_rfl) (by kernel_rfl) fun K hK => ?_ | refine AWP.seqD (id := 10) [0,2,3,4,5,6,15,20,31,46,69,82,83,103,106,138,141,185] [0,1,3,7,15,31,15,79,255,511,15,1039,3583,15,8207,32255,65023,131071,262143,524287,1048575] [0,1,2,3,4,5,6,7,8,10,11,12,13,14,15,9,16,17,18,19,20] mixed (by kernel_rfl) (by kernel_rfl) fun K hK => ?_ | refine AWP.lastD (id := 10) [0,2,3,4,5,6,15,20,31,46,69,82,83,103,106,138,141,185] [0,1,3,7,15,31,15,79,255,511,15,1039,3583,15,8207,32255,65023,131071,262143,524287,1048575] [0,1,2,3,4,5,6,7,8,10,11,12,13,14,15,9,16,17,18,19,20] mixed (by kernel_rfl) (by kernel_rfl) fun K hK => ?_ | refine AWP.seqD (id := 18) [0,2,3,4,5,6,15,20,31,46,69,82,83,103,106,138,141,185] [0,1,3,7,15,31,63,15,143,511,1023,2047,4095,8191,4095,20479,53247,131071,262143] [0,1,2,3,4,5,6,7,8,9,10,11,12,13,14,15,16,17,18] mixed (by kernel_rfl) (by kernel_rfl) fun K hK => ?_ | refine AWP.lastD (id := 18) [0,2,3,4,5,6,15,20,31,46,69,82,83,103,106,138,141,185] [0,1,3,7,15,31,63,15,143,511,1023,2047,4095,8191,4095,20479,53247,131071,262143] [0,1,2,3,4,5,6,7,8,9,10,11,12,13,14,15,16,17,18] mixed (by kernel_rfl) (by kernel_rfl) fun K hK => ?_ | refine AWP.seqD (id := 22) [0,2,3,4,5,6,15,20,31,46,69,82,83,103,106,138,141,185] [0,1,3,7,15,31,63,15,143,511,1023,2047,4095,8191,4095,20479,53247,131071,262143,524287,1048575,2097151,4194303,8388607,16777215,33554431,67108863,134217727,268435455,536870911,1073741823] [0,1,2,3,4,5,6,7,8,9,10,11,12,13,14,15,16,17,18,19,20,21,22,23,24,25,26,27,28,29,30] mixed (by kernel_rfl) (by kernel_rfl) fun K hK => ?_ | refine AWP.lastD (id := 22) [0,2,3,4,5,6,15,20,31,46,69,82,83,103,106,138,141,185] [0,1,3,7,15,31,63,15,143,511,1023,2047,4095,8191,4095,20479,53247,131071,262143,524287,1048575,2097151,4194303,8388607,16777215,33554431,67108863,134217727,268435455,536870911,1073741823] [0,1,2,3,4,5,6,7,8,9,10,11,12,13,14,15,16,17,18,19,20,21,22,23,24,25,26,27,28,29,30] mixed (by kernel_rfl) (by kernel_rfl) fun K hK => ?_ | refine AWP.seqD (id := 26) [0,2,3,4,5,6,15,20,31,46,69,82,83,103,106,138,141,185] [0,1,3,7,15,31,63,15,143,511,1023,2047,4095,8191,4095,20479,53247,131071,262143,524287,1048575,2097151,4194303,8388607,16777215,33554431,67108863,134217727,268435455,536870911,1073741823,2147483647,4294967295,8589934591,17179869183,34359738367,68719476735,137438953471,274877906943,549755813887,1099511627775,2199023255551,4398046511103] [0,1,2,3,4,5,6,7,8,9,10,11,12,13,14,15,16,17,18,19,20,21,22,23,24,25,26,27,28,29,30,31,32,33,34,35,36,37,38,39,40,41,42] mixed (by kernel_rfl) (by kernel_rfl) fun K hK => ?_ | refine AWP.lastD (id := 26) [0,2,3,4,5,6,15,20,31,46,69,82,83,103,106,138,141,185] [0,1,3,7,15,31,63,15,143,511,1023,2047,4095,8191,4095,20479,53247,131071,262143,524287,1048575,2097151,4194303,8388607,16777215,33554431,67108863,134217727,268435455,536870911,1073741823,2147483647,4294967295,8589934591,17179869183,34359738367,68719476735,137438953471,274877906943,549755813887,1099511627775,2199023255551,4398046511103] [0,1,2,3,4,5,6,7,8,9,10,11,12,13,14,15,16,17,18,19,20,21,22,23,24,25,26,27,28,29,30,31,32,33,34,35,36,37,38,39,40,41,42] mixed (by kernel_rfl) (by kernel_rfl) fun K hK => ?_ | refine AWP.seqC fun Kt Kf hKt hKf => ?_ | refine AWP.condK fun Kt Kf hKt hKf => ?_ | refine retS_ret ?_ | refine retS_end ?_ | refine retSB_ret [] ?_ | refine retSB_end [] ?_ | refine retSF_ret [] ?_ | refine retSF_end [] ?_)); simp -implicitDefEqProofs only [Int.cast_ofNat_Int, hn, go_sem, simprocAttr])) <;> try simp (disch := omega) only [wrW])
    | with_reducible refine And.intro (by first | omega | (simp only [hgW]; omega)) ?_
    | (exfalso; omega)
theorem validI : ValidI Go.Lib.validD := by
  intro x hx
  obtain ⟨h1, h2, h3, h4, h5⟩ := hx
  obtain ⟨ki, ni, bni, bi, kni, kids⟩ := x
  simp only [CI.bn, CI.b] at *
  cases bni with
  | false => exact f44_ok bi h3
  | true =>
    obtain rfl := h5 rfl
    exact f44_nil
theorem f9_ok (nb : Bool) (b : List UInt8) (hnb : nb = true → b = []) : CallsP Tryd.prog 9 [.sl none nb 1 (b.map u8)] (.bool true) := by
  by_cases hl : 10000 < b.length
  · refine CallsP.intro Tryd.func9 rfl (by show 1 ≤ 40; decide) ?_
    rintro X hX
    have hn : X.n = 40 := hX
    unfold Tryd.f9
    dsimp only
    rw [entry1]
    repeat' first
      | with_reducible (first | refine AWP.seqA ?_ | refine AWP.seqB ?_ | refine AWP.block ?_ | refine AWP.skipN ?_ | refine AWP.skip ?_ | refine AWP.exit ?_ | refine AWP.ret ?_ | refine LoopN.succ ?_ | refine thenS_n ?_ | refine thenS_x ?_ | refine thenS_r ?_ | refine blockS_n ?_ | refine blockS_r ?_ | refine blockS_x ?_ | refine blockS_y (by decide) ?_)
      | ((with_reducible refine hK _ ?_); clear hK K) | ((with_reducible refine hKt ?_); clear hKt hKf Kt Kf) | ((with_reducible refine hKf ?_); clear hKt hKf Kt Kf) | ((with_reducible refine condP_split (fun hg => hKt ?_) (fun hg => hKf ?_)) <;> clear hKt hKf Kt Kf <;> (try simp only [hgW] at hg) <;> try (exfalso; omega))
      | ((first | (with_reducible refine guardP_split (fun hg => ?_) (fun hg => ?_)) <;> simp -implicitDefEqProofs only [hg, Int.cast_ofNat_Int, hn, go_sem, simprocAttr] <;> (try simp only [hgW] at hg) | ((first | with_reducible (first | refine AWP.seqRB [0,2,3,4,5,6,7,9,12,20] fun K hK => ?_ | refine AWP.lastRB [0,2,3,4,5,6,7,9,12,20] fun K hK => ?_ | refine AWP.seqD (id := 9) [0,2,3,4,5,6,7,9,12,20] [0,1,3,7,7,31,63,7,135,511,1023,2047] [0,1,2,3,4,5,6,7,8,9,10,11] mixed (by kernel_rfl) (by kernel_rfl) fun K hK => ?_ | refine AWP.lastD (id := 9) [0,2,3,4,5,6,7,9,12,20] [0,1,3,7,7,31,63,7,135,511,1023,2047] [0,1,2,3,4,5,6,7,8,9,10,11] mixed (by kernel_rfl) (by kernel_rfl) fun K hK => ?_ | refine AWP.seqC fun Kt Kf hKt hKf => ?_ | refine AWP.condK fun Kt Kf hKt hKf => ?_ | refine retS_ret ?_ | refine retS_end ?_ | refine retSB_ret [] ?_ | refine retSB_end [] ?_ | refine retSF_ret [] ?_ | refine retSF_end [] ?_) | refine callE_P (f17_ok) ?_ | refine callP_intro2 (f17_ok) ?_ | refine callE_X (f17_ok) ?_); simp -implicitDefEqProofs only [Int.cast_ofNat_Int, hn, go_sem, simprocAttr])) <;> try simp (disch := omega) only [wrW])
      | with_reducible refine And.intro (by first | omega | (simp only [hgW]; omega)) ?_
      | (exfalso; omega)
  have c26 := f26_ok valid_ok nb b hnb
  have hr := dec_rest Go.Lib.validD b
  have hf := dec_fit Go.Lib.validD b
  have hb := fun x l => @dec_back Go.Lib.validD b x l
  generalize decS Go.Lib.validD b = d at *
  obtain ⟨x, o, er⟩ := d
  simp only at hr hf c26
  by_cases he : er = 0
  · subst he
    obtain ⟨c, r, h1, h2, h3⟩ := hb x o rfl
    subst h1
    have c25 := f25_own validI x hf
    rw [h2] at c25
    have hlen : b.length = c.length + r.length := by rw [← h3, List.length_append]
    have hc0 := enc_ne h2
    obtain ⟨ki, ni, bni, bi, kni, kids⟩ := x
    simp only [restAV, av_mk', bytesOwn, hc0, cond_false] at c25 c26
    have e : c.map u8 ++ r.map u8 = b.map u8 := by rw [← List.map_append, h3]
    refine CallsP.intro Tryd.func9 rfl (by show 1 ≤ 40; decide) ?_
    rintro X hX
    have hn : X.n = 40 := hX
    unfold Tryd.f9
    dsimp only
    rw [entry1]
    repeat' first
      | with_reducible (first | refine AWP.seqA ?_ | refine AWP.seqB ?_ | refine AWP.block ?_ | refine AWP.skipN ?_ | refine AWP.skip ?_ | refine AWP.exit ?_ | refine AWP.ret ?_ | refine LoopN.succ ?_ | refine thenS_n ?_ | refine thenS_x ?_ | refine thenS_r ?_ | refine blockS_n ?_ | refine blockS_r ?_ | refine blockS_x ?_ | refine blockS_y (by decide) ?_)
      | ((with_reducible refine hK _ ?_); clear hK K) | ((with_reducible refine hKt ?_); clear hKt hKf Kt Kf) | ((with_reducible refine hKf ?_); clear hKt hKf Kt Kf) | ((with_reducible refine condP_split (fun hg => hKt ?_) (fun hg => hKf ?_)) <;> clear hKt hKf Kt Kf <;> (try simp only [hgW] at hg) <;> try (exfalso; omega))
      | ((first | (with_reducible refine guardP_split (fun hg => ?_) (fun hg => ?_)) <;> simp -implicitDefEqProofs only [hg, av_mk', e, Int.cast_ofNat_Int, hn, go_sem, simprocAttr] <;> (try simp only [hgW] at hg) | ((first | with_reducible (first | refine AWP.seqRB [0,2,3,4,5,6,7,9,12,20] fun K hK => ?_ | refine AWP.lastRB [0,2,3,4,5,6,7,9,12,20] fun K hK => ?_ | refine AWP.seqD (id := 9) [0,2,3,4,5,6,7,9,12,20] [0,1,3,7,7,31,63,7,135,511,1023,2047] [0,1,2,3,4,5,6,7,8,9,10,11] mixed (by kernel_rfl) (by kernel_rfl) fun K hK => ?_ | refine AWP.lastD (id := 9) [0,2,3,4,5,6,7,9,12,20] [0,1,3,7,7,31,63,7,135,511,1023,2047] [0,1,2,3,4,5,6,7,8,9,10,11] mixed (by kernel_rfl) (by kernel_rfl) fun K hK => ?_ | refine AWP.seqC fun Kt Kf hKt hKf => ?_ | refine AWP.condK fun Kt Kf hKt hKf => ?_ | refine retS_ret ?_ | refine retS_end ?_ | refine retSB_ret [] ?_ | refine retSB_end [] ?_ | refine retSF_ret [] ?_ | refine retSF_end [] ?_) | refine callE_P (f17_ok) ?_ | refine callP_intro2 (f17_ok) ?_ | refine callE_X (f17_ok) ?_ | refine callE_P (c26) ?_ | refine callP_intro2 (c26) ?_ | refine callE_X (c26) ?_ | refine callE_P (c25) ?_ | refine callP_intro2 (c25) ?_ | refine callE_X (c25) ?_); simp -implicitDefEqProofs only [av_mk', e, Int.cast_ofNat_Int, hn, go_sem, simprocAttr])) <;> try simp (disch := omega) only [wrW])
      | with_reducible refine And.intro (by first | omega | (simp only [hgW]; omega)) ?_
      | (exfalso; omega)
  · have := hr he
    subst this
    obtain ⟨ki, ni, bni, bi, kni, kids⟩ := x
    simp only [restAV, av_mk'] at c26
    refine CallsP.intro Tryd.func9 rfl (by show 1 ≤ 40; decide) ?_
    rintro X hX
    have hn : X.n = 40 := hX
    unfold Tryd.f9
    dsimp only
    rw [entry1]
    repeat' first
      | with_reducible (first | refine AWP.seqA ?_ | refine AWP.seqB ?_ | refine AWP.block ?_ | refine AWP.skipN ?_ | refine AWP.skip ?_ | refine AWP.exit ?_ | refine AWP.ret ?_ | refine LoopN.succ ?_ | refine thenS_n ?_ | refine thenS_x ?_ | refine thenS_r ?_ | refine blockS_n ?_ | refine blockS_r ?_ | refine blockS_x ?_ | refine blockS_y (by decide) ?_)
      | ((with_reducible refine hK _ ?_); clear hK K) | ((with_reducible refine hKt ?_); clear hKt hKf Kt Kf) | ((with_reducible refine hKf ?_); clear hKt hKf Kt Kf) | ((with_reducible refine condP_split (fun hg => hKt ?_) (fun hg => hKf ?_)) <;> clear hKt hKf Kt Kf <;> (try simp only [hgW] at hg) <;> try (exfalso; omega))
      | ((first | (with_reducible refine guardP_split (fun hg => ?_) (fun hg => ?_)) <;> simp -implicitDefEqProofs only [hg, av_mk', Int.cast_ofNat_Int, hn, go_sem, simprocAttr] <;> (try simp only [hgW] at hg) | ((first | with_reducible (first | refine AWP.seqRB [0,2,3,4,5,6,7,9,12,20] fun K hK => ?_ | refine AWP.lastRB [0,2,3,4,5,6,7,9,12,20] fun K hK => ?_ | refine AWP.seqD (id := 9) [0,2,3,4,5,6,7,9,12,20] [0,1,3,7,7,31,63,7,135,511,1023,2047] [0,1,2,3,4,5,6,7,8,9,10,11] mixed (by kernel_rfl) (by kernel_rfl) fun K hK => ?_ | refine AWP.lastD (id := 9) [0,2,3,4,5,6,7,9,12,20] [0,1,3,7,7,31,63,7,135,511,1023,2047] [0,1,2,3,4,5,6,7,8,9,10,11] mixed (by kernel_rfl) (by kernel_rfl) fun K hK => ?_ | refine AWP.seqC fun Kt Kf hKt hKf => ?_ | refine AWP.condK fun Kt Kf hKt hKf => ?_ | refine retS_ret ?_ | refine retS_end ?_ | refine retSB_ret [] ?_ | refine retSB_end [] ?_ | refine retSF_ret [] ?_ | refine retSF_end [] ?_) | refine callE_P (f17_ok) ?_ | refine callP_intro2 (f17_ok) ?_ | refine callE_X (f17_ok) ?_ | refine callE_P (c26) ?_ | refine callP_intro2 (c26) ?_ | refine callE_X (c26) ?_); simp -implicitDefEqProofs only [av_mk', Int.cast_ofNat_Int, hn, go_sem, simprocAttr])) <;> try simp (disch := omega) only [wrW])
      | with_reducible refine And.intro (by first | omega | (simp only [hgW]; omega)) ?_
      | (exfalso; omega)
end Go.Proofs.YtijcpdgfbboamaaDoor
