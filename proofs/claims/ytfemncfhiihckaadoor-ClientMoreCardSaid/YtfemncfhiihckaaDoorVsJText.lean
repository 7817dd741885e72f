/- What the reader's texts come to. -/
import Derived.Test.YtfemncfhiihckaaDoorVsJEsc
open Go Go.VS
namespace Go.Proofs.YtfemncfhiihckaaDoor
set_option linter.unusedVariables false
set_option linter.unusedSimpArgs false
set_option maxRecDepth 20000
set_option maxHeartbeats 4000000
theorem encB_len (x : Nat) : 1 ≤ (encB x).length ∧ (encB x).length ≤ 4 := by
  unfold encB
  (repeat' split) <;> simp
theorem escTo_lt (k : Nat) : (escTo.getD k default).toNat < 128 := by
  by_cases h : k < 8
  · have : ∀ k : Fin 8, (escTo.getD k.val default).toNat < 128 := by decide
    exact this ⟨k, h⟩
  · rw [List.getD_eq_getElem?_getD, List.getElem?_eq_none (by simpa [escTo] using h)]
    decide
theorem escR_pos (b : List UInt8) (i : Nat) (hi : i < b.length) : i ≤ (escR b i).2.2 ∧ (escR b i).2.2 ≤ b.length := by
  unfold escR
  split
  · exact ⟨Nat.le_refl _, by simp only; omega⟩
  split
  · simp only; omega
  split
  · simp only; omega
  split
  · simp only; omega
  rename_i x hx
  have := (unitP_lt hx).2
  split
  · simp only; omega
  split
  · simp only; omega
  split
  · simp only; omega
  split
  · simp only; omega
  rename_i y hy
  have := (unitP_lt hy).2
  simp only; omega
theorem escR_ok (b : List UInt8) (i : Nat) (hi : i < b.length) (h : (escR b i).2.1 = true) : ∃ x : Nat, (escR b i).1 = (x : Int) ∧ x < 1114112 ∧ ¬ (55296 ≤ x ∧ x < 57344) ∧ i + 2 ≤ (escR b i).2.2 := by
  unfold escR at h ⊢
  split
  · rename_i h1; rw [if_pos h1] at h; cases h
  rename_i h1
  rw [if_neg h1] at h
  split
  · rename_i k hk
    have := escTo_lt k
    exact ⟨_, rfl, by omega, by omega, Nat.le_refl _⟩
  rename_i hk
  rw [hk] at h
  simp only at h
  split
  · rename_i h2; rw [if_pos h2] at h; cases h
  rename_i h2
  rw [if_neg h2] at h
  split
  · rename_i hx; rw [hx] at h; cases h
  rename_i x hx
  rw [hx] at h
  simp only at h
  have hx16 := (unitP_lt hx).1
  split
  · rename_i h3; rw [if_pos h3] at h; cases h
  rename_i h3
  rw [if_neg h3] at h
  split
  · rename_i h4
    exact ⟨x, rfl, by omega, by omega, by simp only; omega⟩
  rename_i h4
  rw [if_neg h4] at h
  split
  · rename_i h5; rw [if_pos h5] at h; cases h
  rename_i h5
  rw [if_neg h5] at h
  split
  · rename_i hy; rw [hy] at h; cases h
  rename_i y hy
  rw [hy] at h
  simp only [decide_eq_true_eq] at h
  have hy16 := (unitP_lt hy).1
  have h4 : x / 1024 = 54 := Classical.not_not.1 h4
  exact ⟨65536 + (x - 55296) * 1024 + y - 56320, by simp only; omega, by omega, by omega, by simp only; omega⟩
/-- A text's bytes: what it means, whether it is right, where the reader stands. -/
def txC (b : List UInt8) : Nat → Nat → List UInt8 → List UInt8 × Bool × Nat
  | 0, i, _ => ([], false, i)
  | n + 1, i, out =>
    if b.length ≤ i then ([], false, i)
    else if b.getD i default = 34 then (out, true, i + 1)
    else if (b.getD i default).toNat < 32 then ([], false, i)
    else if b.getD i default = 92 then
      (if (escR b i).2.1 = true then txC b n (escR b i).2.2 (out ++ encB (escR b i).1.toNat) else ([], false, (escR b i).2.2))
    else if (Go.Lib.decodeL (b.drop i)).1 = 65533 ∧ (Go.Lib.decodeL (b.drop i)).2 < 2 then ([], false, i)
    else txC b n (i + (Go.Lib.decodeL (b.drop i)).2) (out ++ (b.drop i).take (Go.Lib.decodeL (b.drop i)).2)
def textS (s : RJ) : List UInt8 × RJ :=
  ((txC s.b (s.b.length + 1) (s.at_ + 1) []).1,
   if (txC s.b (s.b.length + 1) (s.at_ + 1) []).2.1 = true then { s with at_ := (txC s.b (s.b.length + 1) (s.at_ + 1) []).2.2 } else ({ s with at_ := (txC s.b (s.b.length + 1) (s.at_ + 1) []).2.2 } : RJ).fail 11)
theorem decL_pos (l : List UInt8) (h : l ≠ []) : 1 ≤ (Go.Lib.decodeL l).2 ∧ (Go.Lib.decodeL l).2 ≤ l.length := by
  refine ⟨?_, Go.Lib.decodeL_le l h⟩
  rw [Go.Lib.decodeL_N]
  unfold Go.Lib.decodeN
  (repeat' split) <;> simp
structure TxI (b : List UInt8) (R : List UInt8 × Bool × Nat) (x : Nat × Nat × List UInt8) : Prop where
  le : x.2.1 ≤ b.length
  fu : b.length < x.1 + x.2.1
  ol : x.2.2.length ≤ 2 * x.2.1
  eq : txC b x.1 x.2.1 x.2.2 = R
def k44_VsJText : List Nat := [0,2,3,4,5,6,7,8,25,54,82,94,99,108]
def a44_3_VsJText : List Nat := [0,1,3,7,0,16,48,112,240,511]
def o44_3_VsJText : List Nat := [0,1,2,3,4,5,6,7,8,9]
def a44_4_VsJText : List Nat := [0,1,3,7,0,16,48,112,255,511,1023]
def o44_4_VsJText : List Nat := [0,1,2,3,4,5,6,7,8,9,10]
def a44_5_VsJText : List Nat := [0,1,3,7,0,16,48,112,255,511,1023,2047,2047,4095,16383]
def o44_5_VsJText : List Nat := [0,1,2,3,4,5,6,7,8,9,10,11,12,13,14]
def a44_9_VsJText : List Nat := [0,0,2,6,14,0,32,96,224,0,512,1536,3584,0,15872,32766,65535,131071]
def o44_9_VsJText : List Nat := [0,1,2,3,4,5,6,7,8,9,10,11,12,13,14,15,16,17]
attribute [go_sem] k44_VsJText a44_3_VsJText o44_3_VsJText a44_4_VsJText o44_4_VsJText a44_5_VsJText o44_5_VsJText a44_9_VsJText o44_9_VsJText
theorem f44_ok (s : RJ) (nb : Bool) (ha : s.b.length ≤ 100000) (hat : s.at_ < s.b.length) : CallsB Tryd.prog 44 [.ptr 1000000 0] [s.cells nb (4, 0)] (.str (textS s).1) [(textS s).2.cells nb (3, 0)] := by
  obtain ⟨b, at_, deep, nodes, err⟩ := s
  unfold textS
  simp only at ha hat ⊢
  obtain ⟨R, hR⟩ : ∃ R, txC b (b.length + 1) (at_ + 1) [] = R := ⟨_, rfl⟩
  rw [hR]
  have a1 : (at_ : Int) + 1 = ((at_ + 1 : Nat) : Int) := by omega
  have K33 := fun (i : Nat) => f33_ok ⟨b, i, deep, nodes, err⟩ nb 11
  have hFb : ∀ i : Nat, ∃ F : RJ, RJ.fail ⟨b, i, deep, nodes, err⟩ 11 = F := fun i => ⟨_, rfl⟩
  refine CallsB.intro Tryd.func44 rfl (by show 1 ≤ 116; decide) ?_
  rintro X hX
  have hn : X.n = 116 := hX
  unfold Tryd.f44
  dsimp only
  rw [entryB11]
  repeat' first
   | with_reducible refine Rl.go (by constructor <;> decide) ?_
   | ((with_reducible first | refine hK _ ?_ | refine hK.1 ?_ | refine hK.2 ?_); clear hK K)
   | ((with_reducible refine condS hK (fun hg => ?_) fun hg => ?_) <;> clear hK K <;> (try simp only [hgW] at hg) <;> try (exfalso; omega))
   | ((first | ((with_reducible first | refine Rk.go k44_VsJText (by constructor) ?_ | refine Rd.go 3 k44_VsJText a44_3_VsJText o44_3_VsJText mixed (by constructor) (by kernel_rfl) (by kernel_rfl) ?_ | refine Rd.go 4 k44_VsJText a44_4_VsJText o44_4_VsJText mixed (by constructor) (by kernel_rfl) (by kernel_rfl) ?_ | refine Rd.go 5 k44_VsJText a44_5_VsJText o44_5_VsJText mixed (by constructor) (by kernel_rfl) (by kernel_rfl) ?_ | refine Rd.go 9 k44_VsJText a44_9_VsJText o44_9_VsJText mixed (by constructor) (by kernel_rfl) (by kernel_rfl) ?_); intro K hK) | with_reducible refine Rr.go [] (by constructor) ?_ | (with_reducible refine guardP_split (fun hg => ?_) fun hg => ?_) <;> (try simp only [hg]) <;> (try simp only [hgW] at hg)) <;> simp -implicitDefEqProofs only [RJ.cells, a1, hn, go_sem, simprocAttr] <;> try (simp (disch := omega) only [wrW]; try simp -implicitDefEqProofs only [RJ.cells, a1, hn, go_sem, simprocAttr]))
   | with_reducible refine And.intro (by first | omega | (simp only [hgW]; omega)) ?_
   | (exfalso; omega)
  refine AWP.adopt 3 (0, 999) 0 1 (by rfl) ?_
  refine AWP.loopX [0, 2, 3] [] (fun x : Nat × Nat × List UInt8 => St.mk (lk [(0, .ptr 1000000 0), (2, .str []), (3, .sl (some ((0, 999), 0)) x.2.2.isEmpty 1 (x.2.2.map u8))]) (lkB [(1000000, (RJ.mk b x.2.1 deep nodes err).cells nb (4, 0))]) (hasS []) (hasS []) (hasN []) (lkR []))
    (TxI b R) (fun x => b.length - x.2.1) (b.length + 1, at_ + 1, []) ?_ ⟨by simp only; omega, by simp only; omega, by simp, hR⟩ ?_
  · simp -implicitDefEqProofs only [RJ.cells, hn, go_sem, simprocAttr]
    try rfl
  rintro ⟨n, i, out⟩ ⟨hi, hn, hol, hh⟩
  simp only at hi hn hol hh
  obtain ⟨n, rfl⟩ : ∃ m, n = m + 1 := ⟨n - 1, by omega⟩
  unfold txC at hh
  by_cases h1 : b.length ≤ i
  · rw [if_pos h1] at hh
    subst hh
    rw [if_neg (by simp)]
    have c33 := K33 i
    obtain ⟨F, hF⟩ := hFb i
    simp only at hF ⊢
    rw [hF] at c33 ⊢
    obtain ⟨Fb, Fa, Fd, Fn, Fe⟩ := F
    repeat' first
     | with_reducible refine Rl.go (by constructor <;> decide) ?_
     | ((with_reducible first | refine hK _ ?_ | refine hK.1 ?_ | refine hK.2 ?_); clear hK K)
     | ((with_reducible refine condS hK (fun hg => ?_) fun hg => ?_) <;> clear hK K <;> (try simp only [hgW] at hg) <;> try (exfalso; omega))
     | ((first | ((with_reducible first | refine Rk.go k44_VsJText (by constructor) ?_ | refine Rd.go 3 k44_VsJText a44_3_VsJText o44_3_VsJText mixed (by constructor) (by kernel_rfl) (by kernel_rfl) ?_ | refine Rd.go 4 k44_VsJText a44_4_VsJText o44_4_VsJText mixed (by constructor) (by kernel_rfl) (by kernel_rfl) ?_ | refine Rd.go 5 k44_VsJText a44_5_VsJText o44_5_VsJText mixed (by constructor) (by kernel_rfl) (by kernel_rfl) ?_ | refine Rd.go 9 k44_VsJText a44_9_VsJText o44_9_VsJText mixed (by constructor) (by kernel_rfl) (by kernel_rfl) ?_); intro K hK) | with_reducible refine Rr.go [] (by constructor) ?_ | (with_reducible refine guardP_split (fun hg => ?_) fun hg => ?_) <;> (try simp only [hg]) <;> (try simp only [hgW] at hg) | (with_reducible refine callE_B3 c33 ?_)) <;> simp -implicitDefEqProofs only [eqOk_true, RJ.cells, hn, go_sem, simprocAttr] <;> try (simp (disch := omega) only [wrW]; try simp -implicitDefEqProofs only [RJ.cells, hn, go_sem, simprocAttr]))
     | with_reducible refine And.intro (by first | omega | (simp only [hgW]; omega)) ?_
     | (exfalso; omega)
  rw [if_neg h1] at hh
  obtain ⟨c, hc⟩ : ∃ c, b.getD i default = c := ⟨_, rfl⟩
  rw [hc] at hh
  have hct := c.toNat_lt
  have i1 : (i : Int) + 1 = ((i + 1 : Nat) : Int) := by omega
  by_cases h34 : c = 34
  · rw [if_pos h34] at hh
    subst hh
    rw [if_pos rfl]
    have hci : (c.toNat : Int) = 34 := by rw [h34]; rfl
    repeat' first
     | with_reducible refine Rl.go (by constructor <;> decide) ?_
     | ((with_reducible first | refine hK _ ?_ | refine hK.1 ?_ | refine hK.2 ?_); clear hK K)
     | ((with_reducible refine condS hK (fun hg => ?_) fun hg => ?_) <;> clear hK K <;> (try simp only [hgW] at hg) <;> try (exfalso; omega))
     | ((first | ((with_reducible first | refine Rk.go k44_VsJText (by constructor) ?_ | refine Rd.go 3 k44_VsJText a44_3_VsJText o44_3_VsJText mixed (by constructor) (by kernel_rfl) (by kernel_rfl) ?_ | refine Rd.go 4 k44_VsJText a44_4_VsJText o44_4_VsJText mixed (by constructor) (by kernel_rfl) (by kernel_rfl) ?_ | refine Rd.go 5 k44_VsJText a44_5_VsJText o44_5_VsJText mixed (by constructor) (by kernel_rfl) (by kernel_rfl) ?_ | refine Rd.go 9 k44_VsJText a44_9_VsJText o44_9_VsJText mixed (by constructor) (by kernel_rfl) (by kernel_rfl) ?_); intro K hK) | with_reducible refine Rr.go [] (by constructor) ?_ | (with_reducible refine guardP_split (fun hg => ?_) fun hg => ?_) <;> (try simp only [hg]) <;> (try simp only [hgW] at hg)) <;> simp -implicitDefEqProofs only [RJ.cells, u8, hc, hci, i1, hn, go_sem, simprocAttr] <;> try (simp (disch := omega) only [wrW]; try simp -implicitDefEqProofs only [RJ.cells, u8, hc, hci, i1, hn, go_sem, simprocAttr]))
     | with_reducible refine And.intro (by first | omega | (simp only [hgW]; omega)) ?_
     | (exfalso; omega)
  rw [if_neg h34] at hh
  have n34 : ¬ (c.toNat : Int) = 34 := fun h => h34 (UInt8.toNat_inj.1 (by simp; omega))
  by_cases h32 : c.toNat < 32
  · rw [if_pos h32] at hh
    subst hh
    rw [if_neg (by simp)]
    have c33 := K33 i
    obtain ⟨F, hF⟩ := hFb i
    simp only at hF ⊢
    rw [hF] at c33 ⊢
    obtain ⟨Fb, Fa, Fd, Fn, Fe⟩ := F
    repeat' first
     | with_reducible refine Rl.go (by constructor <;> decide) ?_
     | ((with_reducible first | refine hK _ ?_ | refine hK.1 ?_ | refine hK.2 ?_); clear hK K)
     | ((with_reducible refine condS hK (fun hg => ?_) fun hg => ?_) <;> clear hK K <;> (try simp only [hgW] at hg) <;> try (exfalso; omega))
     | ((first | ((with_reducible first | refine Rk.go k44_VsJText (by constructor) ?_ | refine Rd.go 3 k44_VsJText a44_3_VsJText o44_3_VsJText mixed (by constructor) (by kernel_rfl) (by kernel_rfl) ?_ | refine Rd.go 4 k44_VsJText a44_4_VsJText o44_4_VsJText mixed (by constructor) (by kernel_rfl) (by kernel_rfl) ?_ | refine Rd.go 5 k44_VsJText a44_5_VsJText o44_5_VsJText mixed (by constructor) (by kernel_rfl) (by kernel_rfl) ?_ | refine Rd.go 9 k44_VsJText a44_9_VsJText o44_9_VsJText mixed (by constructor) (by kernel_rfl) (by kernel_rfl) ?_); intro K hK) | with_reducible refine Rr.go [] (by constructor) ?_ | (with_reducible refine guardP_split (fun hg => ?_) fun hg => ?_) <;> (try simp only [hg]) <;> (try simp only [hgW] at hg) | (with_reducible refine callE_B3 c33 ?_)) <;> simp -implicitDefEqProofs only [eqOk_true, RJ.cells, u8, hc, n34, hn, go_sem, simprocAttr] <;> try (simp (disch := omega) only [wrW]; try simp -implicitDefEqProofs only [RJ.cells, u8, hc, n34, hn, go_sem, simprocAttr]))
     | with_reducible refine And.intro (by first | omega | (simp only [hgW]; omega)) ?_
     | (exfalso; omega)
  rw [if_neg h32] at hh
  by_cases h92 : c = 92
  · rw [if_pos h92] at hh
    have hci : (c.toNat : Int) = 92 := by rw [h92]; rfl
    have c61 := f61_ok ⟨b, i, deep, nodes, err⟩ nb ha (by simp only; omega)
    have hep := escR_pos b i (by omega)
    have heo := escR_ok b i (by omega)
    simp only at c61
    generalize escR b i = E at *
    obtain ⟨ex, eo, ep⟩ := E
    simp only at hep heo c61 hh
    cases eo with
    | false =>
      rw [if_neg (by decide)] at hh
      subst hh
      rw [if_neg (by simp)]
      have c33 := K33 ep
      obtain ⟨F, hF⟩ := hFb ep
      simp only at hF ⊢
      rw [hF] at c33 ⊢
      obtain ⟨Fb, Fa, Fd, Fn, Fe⟩ := F
      repeat' first
       | with_reducible refine Rl.go (by constructor <;> decide) ?_
       | ((with_reducible first | refine hK _ ?_ | refine hK.1 ?_ | refine hK.2 ?_); clear hK K)
       | ((with_reducible refine condS hK (fun hg => ?_) fun hg => ?_) <;> clear hK K <;> (try simp only [hgW] at hg) <;> try (exfalso; omega))
       | ((first | ((with_reducible first | refine Rk.go k44_VsJText (by constructor) ?_ | refine Rd.go 3 k44_VsJText a44_3_VsJText o44_3_VsJText mixed (by constructor) (by kernel_rfl) (by kernel_rfl) ?_ | refine Rd.go 4 k44_VsJText a44_4_VsJText o44_4_VsJText mixed (by constructor) (by kernel_rfl) (by kernel_rfl) ?_ | refine Rd.go 5 k44_VsJText a44_5_VsJText o44_5_VsJText mixed (by constructor) (by kernel_rfl) (by kernel_rfl) ?_ | refine Rd.go 9 k44_VsJText a44_9_VsJText o44_9_VsJText mixed (by constructor) (by kernel_rfl) (by kernel_rfl) ?_); intro K hK) | with_reducible refine Rr.go [] (by constructor) ?_ | (with_reducible refine guardP_split (fun hg => ?_) fun hg => ?_) <;> (try simp only [hg]) <;> (try simp only [hgW] at hg) | (with_reducible refine callE_B3 c61 ?_) | (with_reducible refine callE_B3 c33 ?_)) <;> simp -implicitDefEqProofs only [eqOk_true, RJ.cells, u8, hc, hci, hn, go_sem, simprocAttr] <;> try (simp (disch := omega) only [wrW]; try simp -implicitDefEqProofs only [RJ.cells, u8, hc, hci, hn, go_sem, simprocAttr]))
       | with_reducible refine And.intro (by first | omega | (simp only [hgW]; omega)) ?_
       | (exfalso; omega)
    | true =>
      rw [if_pos rfl] at hh
      obtain ⟨x, rfl, hx1, hx2, hx3⟩ := heo rfl
      rw [Int.toNat_natCast] at hh
      have c62 := f62_ok out out.isEmpty (by omega) x hx1 hx2
      have hel := encB_len x
      repeat' first
       | with_reducible refine Rl.go (by constructor <;> decide) ?_
       | ((with_reducible first | refine hK _ ?_ | refine hK.1 ?_ | refine hK.2 ?_); clear hK K)
       | ((with_reducible refine condS hK (fun hg => ?_) fun hg => ?_) <;> clear hK K <;> (try simp only [hgW] at hg) <;> try (exfalso; omega))
       | ((with_reducible refine callE_BO c62 ?_); simp -implicitDefEqProofs only [eqOk_true, RJ.cells, u8, hc, hci, hn, go_sem, simprocAttr]; (skip; try (simp (disch := omega) only [wrW]; try simp -implicitDefEqProofs only [RJ.cells, u8, hc, hci, hn, go_sem, simprocAttr])); fail_if_success (with_reducible refine eqOk_mk ?_))
       | ((first | ((with_reducible first | refine Rk.go k44_VsJText (by constructor) ?_ | refine Rd.go 3 k44_VsJText a44_3_VsJText o44_3_VsJText mixed (by constructor) (by kernel_rfl) (by kernel_rfl) ?_ | refine Rd.go 4 k44_VsJText a44_4_VsJText o44_4_VsJText mixed (by constructor) (by kernel_rfl) (by kernel_rfl) ?_ | refine Rd.go 5 k44_VsJText a44_5_VsJText o44_5_VsJText mixed (by constructor) (by kernel_rfl) (by kernel_rfl) ?_ | refine Rd.go 9 k44_VsJText a44_9_VsJText o44_9_VsJText mixed (by constructor) (by kernel_rfl) (by kernel_rfl) ?_); intro K hK) | with_reducible refine Rr.go [] (by constructor) ?_ | (with_reducible refine guardP_split (fun hg => ?_) fun hg => ?_) <;> (try simp only [hg]) <;> (try simp only [hgW] at hg) | (with_reducible refine callE_B3 c61 ?_)) <;> simp -implicitDefEqProofs only [eqOk_true, RJ.cells, u8, hc, hci, hn, go_sem, simprocAttr] <;> try (simp (disch := omega) only [wrW]; try simp -implicitDefEqProofs only [RJ.cells, u8, hc, hci, hn, go_sem, simprocAttr]))
       | with_reducible refine And.intro (by first | omega | (simp only [hgW]; omega)) ?_
       | (exfalso; omega)
      refine ⟨(n, ep, out ++ encB x), ?_, ⟨hep.2, by simp only; omega, by simp only [List.length_append]; omega, hh⟩, by simp only; omega⟩
      have e3 : (out ++ encB x).isEmpty = false := by
        cases h : out ++ encB x with
        | nil => have := congrArg List.length h; rw [List.length_append] at this; simp only [List.length_nil] at this; omega
        | cons => rfl
      simp -implicitDefEqProofs only [RJ.cells, e3, hn, go_sem, simprocAttr]
      try rfl
  · rw [if_neg h92] at hh
    have n92 : ¬ (c.toNat : Int) = 92 := fun h => h92 (UInt8.toNat_inj.1 (by simp; omega))
    have hdl : (b.drop i).length = b.length - i := List.length_drop
    have hne : b.drop i ≠ [] := fun h => by have := congrArg List.length h; rw [hdl] at this; simp only [List.length_nil] at this; omega
    have hdp := decL_pos _ hne
    have c63 := f63_ok nb (b.drop i) hne (by omega)
    have hei : ∀ k : Nat, (b.drop i).take (i + k - i) = (b.drop i).take k := fun k => by rw [Nat.add_sub_cancel_left]
    obtain ⟨D, hD⟩ : ∃ D, Go.Lib.decodeL (b.drop i) = D := ⟨_, rfl⟩
    rw [hD] at hh hdp c63
    obtain ⟨dx, dn⟩ := D
    simp only at hdp c63 hh
    by_cases hbad : dx = 65533 ∧ dn < 2
    · rw [if_pos hbad] at hh
      obtain ⟨rfl, hdn⟩ := hbad
      subst hh
      rw [if_neg (by simp)]
      have c33 := K33 i
      obtain ⟨F, hF⟩ := hFb i
      simp only at hF ⊢
      rw [hF] at c33 ⊢
      obtain ⟨Fb, Fa, Fd, Fn, Fe⟩ := F
      repeat' first
       | with_reducible refine Rl.go (by constructor <;> decide) ?_
       | ((with_reducible first | refine hK _ ?_ | refine hK.1 ?_ | refine hK.2 ?_); clear hK K)
       | ((with_reducible refine condS hK (fun hg => ?_) fun hg => ?_) <;> clear hK K <;> (try simp only [hgW] at hg) <;> try (exfalso; omega))
       | ((first | ((with_reducible first | refine Rk.go k44_VsJText (by constructor) ?_ | refine Rd.go 3 k44_VsJText a44_3_VsJText o44_3_VsJText mixed (by constructor) (by kernel_rfl) (by kernel_rfl) ?_ | refine Rd.go 4 k44_VsJText a44_4_VsJText o44_4_VsJText mixed (by constructor) (by kernel_rfl) (by kernel_rfl) ?_ | refine Rd.go 5 k44_VsJText a44_5_VsJText o44_5_VsJText mixed (by constructor) (by kernel_rfl) (by kernel_rfl) ?_ | refine Rd.go 9 k44_VsJText a44_9_VsJText o44_9_VsJText mixed (by constructor) (by kernel_rfl) (by kernel_rfl) ?_); intro K hK) | with_reducible refine Rr.go [] (by constructor) ?_ | (with_reducible refine guardP_split (fun hg => ?_) fun hg => ?_) <;> (try simp only [hg]) <;> (try simp only [hgW] at hg) | refine Rc.go c63 (by constructor) ?_ | (with_reducible refine callE_B3 c33 ?_)) <;> simp -implicitDefEqProofs only [eqOk_true, RJ.cells, u8, hc, n34, n92, hn, go_sem, simprocAttr] <;> try (simp (disch := omega) only [wrW]; try simp -implicitDefEqProofs only [RJ.cells, u8, hc, n34, n92, hn, go_sem, simprocAttr]))
       | with_reducible refine And.intro (by first | omega | (simp only [hgW]; omega)) ?_
       | (exfalso; omega)
    · rw [if_neg hbad] at hh
      have ein : (i : Int) + (dn : Int) = ((i + dn : Nat) : Int) := by omega
      have mn : ((i : Int) + (dn : Int)).toNat = i + dn := by omega
      have htl : ((b.drop i).take dn).length = dn := by rw [List.length_take, hdl]; omega
      repeat' first
       | with_reducible refine Rl.go (by constructor <;> decide) ?_
       | ((with_reducible first | refine hK _ ?_ | refine hK.1 ?_ | refine hK.2 ?_); clear hK K)
       | ((with_reducible refine condS hK (fun hg => ?_) fun hg => ?_) <;> clear hK K <;> (try simp only [hgW] at hg) <;> try (exfalso; omega))
       | ((first | ((with_reducible first | refine Rk.go k44_VsJText (by constructor) ?_ | refine Rd.go 3 k44_VsJText a44_3_VsJText o44_3_VsJText mixed (by constructor) (by kernel_rfl) (by kernel_rfl) ?_ | refine Rd.go 4 k44_VsJText a44_4_VsJText o44_4_VsJText mixed (by constructor) (by kernel_rfl) (by kernel_rfl) ?_ | refine Rd.go 5 k44_VsJText a44_5_VsJText o44_5_VsJText mixed (by constructor) (by kernel_rfl) (by kernel_rfl) ?_ | refine Rd.go 9 k44_VsJText a44_9_VsJText o44_9_VsJText mixed (by constructor) (by kernel_rfl) (by kernel_rfl) ?_); intro K hK) | with_reducible refine Rr.go [] (by constructor) ?_ | (with_reducible refine guardP_split (fun hg => ?_) fun hg => ?_) <;> (try simp only [hg]) <;> (try simp only [hgW] at hg) | refine Rc.go c63 (by constructor) ?_) <;> simp -implicitDefEqProofs only [RJ.cells, u8, hc, n34, n92, hei, ein, mn, hn, go_sem, simprocAttr] <;> try (simp (disch := omega) only [wrW]; try simp -implicitDefEqProofs only [RJ.cells, u8, hc, n34, n92, hei, ein, mn, hn, go_sem, simprocAttr]))
       | with_reducible refine And.intro (by first | omega | (simp only [hgW]; omega)) ?_
       | (exfalso; omega)
      all_goals
        refine ⟨(n, i + dn, out ++ (b.drop i).take dn), ?_, ⟨by simp only; omega, by simp only; omega, by simp only [List.length_append, htl]; omega, hh⟩, by simp only; omega⟩
        have e3 : (out ++ (b.drop i).take dn).isEmpty = false := by
          cases h : out ++ (b.drop i).take dn with
          | nil => have := congrArg List.length h; rw [List.length_append, htl] at this; simp only [List.length_nil] at this; omega
          | cons => rfl
        have e4 : (out.isEmpty && (((b.drop i).take dn).map u8).isEmpty) = false := by
          have : (((b.drop i).take dn).map u8).isEmpty = false := by
            cases h : ((b.drop i).take dn).map u8 with
            | nil => have := congrArg List.length h; rw [List.length_map, htl] at this; simp only [List.length_nil] at this; omega
            | cons => rfl
          rw [this, Bool.and_false]
        simp -implicitDefEqProofs only [RJ.cells, e3, e4, List.map_append, hn, go_sem, simprocAttr]
        try rfl
end Go.Proofs.YtfemncfhiihckaaDoor
