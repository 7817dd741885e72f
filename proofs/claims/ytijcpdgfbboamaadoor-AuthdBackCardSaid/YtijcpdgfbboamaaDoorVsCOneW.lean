/- The law CborOne's code answers true for any bytes. -/
import Derived.Test.YtijcpdgfbboamaaDoorVsCOneL
import Derived.Test.YtijcpdgfbboamaaDoorVsCEncE
import Derived.Test.YtijcpdgfbboamaaDoorVsCEncV
open Go Go.VS
namespace Go.Proofs.YtijcpdgfbboamaaDoor
set_option linter.unusedVariables false
set_option linter.unusedSimpArgs false
set_option maxRecDepth 20000
set_option maxHeartbeats 4000000
theorem dec_back {valid : List UInt8 → Bool} {b : List UInt8} {x : CI} {l : Option (List UInt8)} (h : decS valid b = (x, l, 0)) : ∃ c r, l = some r ∧ encS valid x = (c, 0) ∧ c ++ r = b := by
  unfold decS at h
  by_cases hl : 8192 < b.length
  · rw [if_pos hl] at h; cases h
  rw [if_neg hl] at h
  simp only at h
  by_cases he : (itemS valid 8 ⟨b, 0, 0⟩).2.err ≠ 0
  · rw [if_pos he] at h
    have := congrArg (fun p => p.2.2) h
    exact absurd this he
  rw [if_neg he] at h
  have he : (itemS valid 8 ⟨b, 0, 0⟩).2.err = 0 := by simpa using he
  obtain ⟨c, b1, w1⟩ := item_back valid 8 ⟨b, 0, 0⟩ he
  cases h
  refine ⟨c, _, rfl, ?_, b1.symm⟩
  have := w1 ⟨[], 0⟩ rfl
  unfold encS
  simp only
  rw [this]
  simp only
  simp only at b1
  have hlen := congrArg List.length b1
  rw [List.length_append] at hlen
  rw [if_neg (by simp), if_neg (by simp; omega)]
  rfl
theorem dec_fit (valid : List UInt8 → Bool) (b : List UInt8) : Fit 8 (decS valid b).1 := by
  unfold decS
  split
  · exact Fit.zero _
  · simp only
    split
    · exact Fit.zero _
    · exact item_fit valid 8 _ (by simp only; omega)
theorem dec_rest (valid : List UInt8 → Bool) (b : List UInt8) : (decS valid b).2.2 ≠ 0 → (decS valid b).2.1 = none := by
  unfold decS
  split
  · exact fun _ => rfl
  · simp only
    split
    · exact fun _ => rfl
    · exact fun h => absurd rfl h
def k9_VsCOneW : List Nat := [0,2,3,4,5,6,7,9,12,20]
def a9_9_VsCOneW : List Nat := [0,1,3,7,7,31,63,7,135,511,1023,2047]
def o9_9_VsCOneW : List Nat := [0,1,2,3,4,5,6,7,8,9,10,11]
attribute [go_sem] k9_VsCOneW a9_9_VsCOneW o9_9_VsCOneW
theorem f9_ok (nb : Bool) (b : List UInt8) (hnb : nb = true → b = []) : CallsP Tryd.prog 9 [.sl none nb 1 (b.map u8)] (.bool true) := by
  by_cases hl : 10000 < b.length
  · refine CallsP.intro Tryd.func9 rfl (by show 1 ≤ 40; decide) ?_
    rintro X hX
    have hn : X.n = 40 := hX
    unfold Tryd.f9
    dsimp only
    rw [entry1]
    repeat' first
     | with_reducible refine Rl.go (by constructor <;> decide) ?_
     | ((with_reducible first | refine hK _ ?_ | refine hK.1 ?_ | refine hK.2 ?_); clear hK K)
     | ((with_reducible refine condS hK (fun hg => ?_) fun hg => ?_) <;> clear hK K <;> (try simp only [hgW] at hg) <;> try (exfalso; omega))
     | ((first | ((with_reducible first | refine Rk.go k9_VsCOneW (by constructor) ?_ | refine Rd.go 9 k9_VsCOneW a9_9_VsCOneW o9_9_VsCOneW mixed (by constructor) (by kernel_rfl) (by kernel_rfl) ?_); intro K hK) | with_reducible refine Rr.go [] (by constructor) ?_ | (with_reducible refine guardP_split (fun hg => ?_) fun hg => ?_) <;> (try simp only [hg]) <;> (try simp only [hgW] at hg) | refine Rc.go f17_ok (by constructor) ?_) <;> simp -implicitDefEqProofs only [Int.cast_ofNat_Int, hn, go_sem, simprocAttr] <;> try simp (disch := omega) only [wrW])
     | with_reducible refine And.intro (by first | omega | (simp only [hgW]; omega)) ?_
     | (exfalso; omega)
  have c26 := f26_ok valid_ok nb b hnb
  have hr := dec_rest Go.Lib.validD b
  have hf := dec_fit Go.Lib.validD b
  have hb := fun x l => @dec_back Go.Lib.validD b x l
  generalize decS Go.Lib.validD b = d at *
  obtain ⟨x, o, er⟩ := d
  simp only at hr hf c26
  by_cases he : er = 0
  · subst he
    obtain ⟨c, r, h1, h2, h3⟩ := hb x o rfl
    subst h1
    have c25 := f25_own validI x hf
    rw [h2] at c25
    have hlen : b.length = c.length + r.length := by rw [← h3, List.length_append]
    have hc0 := enc_ne h2
    obtain ⟨ki, ni, bni, bi, kni, kids⟩ := x
    simp only [restAV, av_mk', bytesOwn, hc0, cond_false] at c25 c26
    have e : c.map u8 ++ r.map u8 = b.map u8 := by rw [← List.map_append, h3]
    refine CallsP.intro Tryd.func9 rfl (by show 1 ≤ 40; decide) ?_
    rintro X hX
    have hn : X.n = 40 := hX
    unfold Tryd.f9
    dsimp only
    rw [entry1]
    repeat' first
     | with_reducible refine Rl.go (by constructor <;> decide) ?_
     | ((with_reducible first | refine hK _ ?_ | refine hK.1 ?_ | refine hK.2 ?_); clear hK K)
     | ((with_reducible refine condS hK (fun hg => ?_) fun hg => ?_) <;> clear hK K <;> (try simp only [hgW] at hg) <;> try (exfalso; omega))
     | ((first | ((with_reducible first | refine Rk.go k9_VsCOneW (by constructor) ?_ | refine Rd.go 9 k9_VsCOneW a9_9_VsCOneW o9_9_VsCOneW mixed (by constructor) (by kernel_rfl) (by kernel_rfl) ?_); intro K hK) | with_reducible refine Rr.go [] (by constructor) ?_ | (with_reducible refine guardP_split (fun hg => ?_) fun hg => ?_) <;> (try simp only [hg]) <;> (try simp only [hgW] at hg) | refine Rc.go f17_ok (by constructor) ?_ | refine Rc.go c26 (by constructor) ?_ | refine Rc.go c25 (by constructor) ?_) <;> simp -implicitDefEqProofs only [av_mk', e, Int.cast_ofNat_Int, hn, go_sem, simprocAttr] <;> try simp (disch := omega) only [wrW])
     | with_reducible refine And.intro (by first | omega | (simp only [hgW]; omega)) ?_
     | (exfalso; omega)
  · have := hr he
    subst this
    obtain ⟨ki, ni, bni, bi, kni, kids⟩ := x
    simp only [restAV, av_mk'] at c26
    refine CallsP.intro Tryd.func9 rfl (by show 1 ≤ 40; decide) ?_
    rintro X hX
    have hn : X.n = 40 := hX
    unfold Tryd.f9
    dsimp only
    rw [entry1]
    repeat' first
     | with_reducible refine Rl.go (by constructor <;> decide) ?_
     | ((with_reducible first | refine hK _ ?_ | refine hK.1 ?_ | refine hK.2 ?_); clear hK K)
     | ((with_reducible refine condS hK (fun hg => ?_) fun hg => ?_) <;> clear hK K <;> (try simp only [hgW] at hg) <;> try (exfalso; omega))
     | ((first | ((with_reducible first | refine Rk.go k9_VsCOneW (by constructor) ?_ | refine Rd.go 9 k9_VsCOneW a9_9_VsCOneW o9_9_VsCOneW mixed (by constructor) (by kernel_rfl) (by kernel_rfl) ?_); intro K hK) | with_reducible refine Rr.go [] (by constructor) ?_ | (with_reducible refine guardP_split (fun hg => ?_) fun hg => ?_) <;> (try simp only [hg]) <;> (try simp only [hgW] at hg) | refine Rc.go f17_ok (by constructor) ?_ | refine Rc.go c26 (by constructor) ?_) <;> simp -implicitDefEqProofs only [av_mk', Int.cast_ofNat_Int, hn, go_sem, simprocAttr] <;> try simp (disch := omega) only [wrW])
     | with_reducible refine And.intro (by first | omega | (simp only [hgW]; omega)) ?_
     | (exfalso; omega)
end Go.Proofs.YtijcpdgfbboamaaDoor
