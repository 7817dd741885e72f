/- told answers true: what is read is the same both ways. -/
import Derived.Test.YtijcpdgfbboamaaDoorVsDRef3
open Go Go.VS
namespace Go.Proofs.YtijcpdgfbboamaaDoor
set_option linter.unusedVariables false
set_option linter.unusedSimpArgs false
set_option maxRecDepth 20000
set_option maxHeartbeats 4000000
structure AD.Ok (d : AD) : Prop where
  hs : d.hs.length = 32
  ms : d.ms.length = 16
  key : Wide 8 d.key
  exts : Wide 8 d.exts
theorem AD.zero_ok : AD.zero.Ok := ⟨rfl, rfl, Wide.leaf _ rfl, Wide.leaf _ rfl⟩
theorem dec_wide3 (valid : List UInt8 → Bool) (b : List UInt8) : Wide 8 (decS valid b).1 := by
  unfold decS
  split
  · exact Wide.leaf _ rfl
  · simp only
    split
    · exact Wide.leaf _ rfl
    · exact item_wide valid 8 _
theorem endS_ok {d : AD} (h : d.Ok) (r : List UInt8) : (endS d r).1.Ok := by
  unfold endS
  split
  · exact h
  · exact AD.zero_ok
theorem extS_ok (valid : List UInt8 → Bool) (f : UInt8) {d : AD} (h : d.Ok) (r : List UInt8) : (extS valid f d r).1.Ok := by
  unfold extS
  split
  · split
    · exact AD.zero_ok
    split
    · exact AD.zero_ok
    · exact endS_ok (d := { d with exts := (decS valid r).1 }) ⟨h.hs, h.ms, h.key, dec_wide3 valid r⟩ _
  · exact endS_ok h r
theorem authS_ok (valid : List UInt8 → Bool) (b : List UInt8) : (authS valid b).1.Ok := by
  unfold authS
  split
  · exact AD.zero_ok
  · rename_i h
    have h37 : ¬ b.length < 37 := fun x => h (.inl x)
    simp only
    unfold heldS
    split
    · split
      · exact AD.zero_ok
      · rename_i h18
        simp only
        split
        · exact AD.zero_ok
        split
        · exact AD.zero_ok
        · exact extS_ok valid _ ⟨by simp; omega, by simp only [List.length_drop] at h18; simp; omega, dec_wide3 valid _, Wide.leaf _ rfl⟩ _
    · exact extS_ok valid _ ⟨by simp; omega, rfl, Wide.leaf _ rfl, Wide.leaf _ rfl⟩ _
theorem ba43 : Tryd.prog.byteArr 43 32 = true := by kernel_rfl
theorem ba46 : Tryd.prog.byteArr 46 16 = true := by kernel_rfl
def k32_VsDTold : List Nat := [0,1,2,3,4]
attribute [go_sem] k32_VsDTold
theorem f32_ok (d : AD) (h : d.Ok) : CallsP Tryd.prog 32 [d.av, d.av] (.bool true) := by
  obtain ⟨h1, h2, h3, h4⟩ := h
  have c27 := f27_ok 8 _ h3
  have c27' := f27_ok 8 _ h4
  obtain ⟨hs, p, v, h, cnt, ms, cn, cred, key, exts⟩ := d
  simp only at *
  obtain ⟨kk, kn, kbn, kb, kkn, kks⟩ := key
  obtain ⟨xk, xn, xbn, xb, xkn, xks⟩ := exts
  have hl2 : (hs.map u8).length = 32 := by rw [List.length_map]; exact h1
  have ml2 : (ms.map u8).length = 16 := by rw [List.length_map]; exact h2
  have ht1 := ap_take hl2
  have hd1 := ap_drop hl2
  have hg1 := ap_get hl2
  have ht2 := ap_take ml2
  have hd2 := ap_drop ml2
  have hg2 := ap_get ml2
  have ha1 : ∀ l, List.take 32 (hs.map u8 ++ l) = hs.map u8 := fun l => by have := ht1 l 0; simpa using this
  have ha2 : ∀ l, List.take 16 (ms.map u8 ++ l) = ms.map u8 := fun l => by have := ht2 l 0; simpa using this
  rw [av_mk'] at c27 c27'
  refine CallsP.intro Tryd.func32 rfl (by show 2 ≤ 68; decide) ?_
  rintro X hX
  have hn : X.n = 68 := hX
  unfold Tryd.f32
  dsimp only
  rw [entry2]
  repeat' first
   | with_reducible refine Rl.go (by constructor <;> decide) ?_
   | ((with_reducible first | refine hK _ ?_ | refine hK.1 ?_ | refine hK.2 ?_); clear hK K)
   | ((with_reducible refine condS hK (fun hg => ?_) fun hg => ?_) <;> clear hK K <;> (try simp only [hgW] at hg) <;> try (exfalso; omega))
   | ((first | ((with_reducible first | refine Rk.go k32_VsDTold (by constructor) ?_); intro K hK) | with_reducible refine Rr.go [] (by constructor) ?_ | (with_reducible refine guardP_split (fun hg => ?_) fun hg => ?_) <;> (try simp only [hg]) <;> (try simp only [hgW] at hg) | refine Rc.go c27 (by constructor) ?_ | refine Rc.go (c27') (by constructor) ?_) <;> simp -implicitDefEqProofs only [AD.av, AD.cells, cs_mk, List.append_assoc, h1, h2, hl2, ml2, ha1, ha2, ht1, hd1, hg1, ht2, hd2, hg2, ints_u8, ba43, ba46, Int.cast_ofNat_Int, hn, go_sem, simprocAttr] <;> try (simp (disch := omega) only [wrW]; try simp -implicitDefEqProofs only [AD.av, AD.cells, cs_mk, List.append_assoc, h1, h2, hl2, ml2, ha1, ha2, ht1, hd1, hg1, ht2, hd2, hg2, ints_u8, ba43, ba46, Int.cast_ofNat_Int, hn, go_sem, simprocAttr]))
   | with_reducible refine And.intro (by first | omega | (simp only [hgW]; omega)) ?_
   | (exfalso; omega)
def k23_VsDTold : List Nat := [0,2,3,4,5,6,7]
attribute [go_sem] k23_VsDTold
theorem f23_ok {valid : List UInt8 → Bool} (hv : ValidOk valid) (nb : Bool) (b : List UInt8) (hnb : nb = true → b = []) (hl : b.length ≤ 100000) : CallsP Tryd.prog 23 [.sl none nb 1 (b.map u8)] (.bool true) := by
  have c24 := f24_ok hv false b (fun h => by cases h) hl
  have c37 := f37_ok hv nb b hnb hl
  have hok := authS_ok valid b
  have c32 := f32_ok _ hok
  obtain ⟨A, hA⟩ : ∃ A, authS valid b = A := ⟨_, rfl⟩
  rw [hA] at c24 c37 hok c32
  obtain ⟨⟨hs, p, v, h, cnt, ms, cn, cred, key, exts⟩, err⟩ := A
  obtain ⟨h1, h2, _, _⟩ := hok
  simp only at h1 h2
  obtain ⟨kk, kn, kbn, kb, kkn, kks⟩ := key
  obtain ⟨xk, xn, xbn, xb, xkn, xks⟩ := exts
  have hl2 : (hs.map u8).length = 32 := by rw [List.length_map]; exact h1
  have ml2 : (ms.map u8).length = 16 := by rw [List.length_map]; exact h2
  have ht1 := ap_take hl2
  have hd1 := ap_drop hl2
  have ht2 := ap_take ml2
  have hd2 := ap_drop ml2
  simp only [AD.av, AD.cells, cs_mk, List.cons_append, List.nil_append] at c24 c37 c32
  refine CallsP.intro Tryd.func23 rfl (by show 1 ≤ 36; decide) ?_
  rintro X hX
  have hn : X.n = 36 := hX
  unfold Tryd.f23
  dsimp only
  rw [entry1]
  repeat' first
   | with_reducible refine Rl.go (by constructor <;> decide) ?_
   | ((with_reducible first | refine hK _ ?_ | refine hK.1 ?_ | refine hK.2 ?_); clear hK K)
   | ((with_reducible refine condS hK (fun hg => ?_) fun hg => ?_) <;> clear hK K <;> (try simp only [hgW] at hg) <;> try (exfalso; omega))
   | ((with_reducible first | refine callE_PE c32 ?_ | refine callP_PE c32 ?_); simp -implicitDefEqProofs only [eqOk_true, List.append_assoc, h1, h2, hl2, ml2, ht1, hd1, ht2, hd2, Int.cast_ofNat_Int, hn, go_sem, simprocAttr]; (skip; try (simp (disch := omega) only [wrW]; try simp -implicitDefEqProofs only [List.append_assoc, h1, h2, hl2, ml2, ht1, hd1, ht2, hd2, Int.cast_ofNat_Int, hn, go_sem, simprocAttr])); fail_if_success (with_reducible refine eqOk_mk ?_))
   | ((first | ((with_reducible first | refine Rk.go k23_VsDTold (by constructor) ?_); intro K hK) | with_reducible refine Rr.go [] (by constructor) ?_ | (with_reducible refine guardP_split (fun hg => ?_) fun hg => ?_) <;> (try simp only [hg]) <;> (try simp only [hgW] at hg) | refine Rc.go c24 (by constructor) ?_ | refine Rc.go c37 (by constructor) ?_) <;> simp -implicitDefEqProofs only [List.append_assoc, h1, h2, hl2, ml2, ht1, hd1, ht2, hd2, Int.cast_ofNat_Int, hn, go_sem, simprocAttr] <;> try (simp (disch := omega) only [wrW]; try simp -implicitDefEqProofs only [List.append_assoc, h1, h2, hl2, ml2, ht1, hd1, ht2, hd2, Int.cast_ofNat_Int, hn, go_sem, simprocAttr]))
   | with_reducible refine And.intro (by first | omega | (simp only [hgW]; omega)) ?_
   | (exfalso; omega)
  all_goals trace_state
end Go.Proofs.YtijcpdgfbboamaaDoor
