/- The law JsonsJoins, if two equal lists of nodes are the same. -/
import Derived.Test.YtfemncfhiihckaaDoorVsQJoin2
import Derived.Test.YtfemncfhiihckaaDoorVsLAwake
import Derived.Test.YtfemncfhiihckaaDoorVsLSmall
open Go Go.VS
namespace Go.Proofs.YtfemncfhiihckaaDoor
set_option linter.unusedVariables false
set_option linter.unusedSimpArgs false
set_option maxRecDepth 20000
set_option maxHeartbeats 4000000
/-- What Parse comes to on a value's text, however long. -/
theorem parse_any {gap : List UInt8} (hg : AllB gap) (d : Nat) (hd : d ≤ 5) (v : GV) : ∃ e : Nat, (e = 3 ∨ e = 14) ∧ parseS (txtS gap d v) = ([], e) ∨ (txtS gap d v).length ≤ 4096 ∧ parseS (txtS gap d v) = (nodesV d v 0, 0) := by
  by_cases hl : (txtS gap d v).length ≤ 4096
  · have := parse_txt hg d hd v hl
    by_cases hm : (nodesV d v 0).length ≤ 256
    · rw [if_pos hm] at this
      exact ⟨0, .inr ⟨hl, this⟩⟩
    · rw [if_neg hm] at this
      exact ⟨14, .inl ⟨.inr rfl, this⟩⟩
  · refine ⟨3, .inl ⟨.inl rfl, ?_⟩⟩
    unfold parseS
    rw [if_pos (by omega)]
def k7_VsQJoin : List Nat := [0,1,2,3,4,5,6,7,8,9,10,11,12,13,14,16,56,131,133,134,135,149,150,151]
def a7_3_VsQJoin : List Nat := [0,1,0,7,15,31]
def o7_3_VsQJoin : List Nat := [0,1,2,3,4,5]
attribute [go_sem] k7_VsQJoin a7_3_VsQJoin o7_3_VsQJoin
theorem f7_ok (h18 : ∀ (l : List JN) (n1 n2 : Bool), l.length ≤ 100000 → (∀ x ∈ l, smallJ x) → CallsP Tryd.prog 18 [.sl none n1 4 (l.map JN.av), .sl none n2 4 (l.map JN.av)] (.bool true)) (v w : GV) (hv : GVok 5 v) (hw : GVok 5 w) :
    CallsP Tryd.prog 7 [v.av, w.av] (.bool true) := by
  have c15a : CallsP Tryd.prog 15 [v.av, .int .i64 4, .str []] (.str (txtS [] 4 v)) := f15_ok [] (by simp) 4 v (by omega) hv
  have c15b : CallsP Tryd.prog 15 [w.av, .int .i64 4, .str [32]] (.str (txtS [32] 4 w)) := f15_ok [32] (by simp) 4 w (by omega) hw
  have ha := txtS_len (gap := []) (by simp) 4 v
  have hb := txtS_len (gap := [32]) (by simp) 4 w
  have hT4 : lenT 4 = 424805 := by decide
  rw [hT4] at ha hb
  have hB1 : AllB [] := fun _ h => by cases h
  have hB2 : AllB [32] := fun x h => by simp at h; subst h; decide
  obtain ⟨ea, pa⟩ := parse_any hB1 4 (by omega) v
  obtain ⟨eb, pb⟩ := parse_any hB2 4 (by omega) w
  have pair := pair_parse hB1 hB2 4 (by omega) v w
  have ca := f17_own (txtS [] 4 v) false
  have cb := f17_own (txtS [32] 4 w) false
  have hna := nodes_ne 4 v 0
  have hnb := nodes_ne 4 w 0
  have hwa := nodes_within 4 v 0
  have hwb := nodes_within 4 w 0
  have hsa := parse_small (txtS [] 4 v)
  have hsb := parse_small (txtS [32] 4 w)
  have hma := parse_many (txtS [] 4 v)
  have hmb := parse_many (txtS [32] 4 w)
  obtain ⟨A, hA⟩ : ∃ A, txtS [] 4 v = A := ⟨_, rfl⟩
  obtain ⟨B, hB⟩ : ∃ B, txtS [32] 4 w = B := ⟨_, rfl⟩
  obtain ⟨la, hla⟩ : ∃ l, nodesV 4 v 0 = l := ⟨_, rfl⟩
  obtain ⟨lb, hlb⟩ : ∃ l, nodesV 4 w 0 = l := ⟨_, rfl⟩
  rw [hA] at c15a ha pa pair ca hsa hma
  rw [hB] at c15b hb pb pair cb hsb hmb
  rw [hla] at pa pair hna hwa
  rw [hlb] at pb pair hnb hwb
  obtain ⟨k, t, kn, ks⟩ := v
  obtain ⟨k', t', kn', ks'⟩ := w
  simp only [gav] at c15a c15b ⊢
  rcases pa with ⟨he, pa⟩ | ⟨hl1, pa⟩
  · rw [pa] at ca
    rw [nodesOwn_err (by omega)] at ca
    rcases pb with ⟨he', pb⟩ | ⟨hl2, pb⟩
    all_goals
      rw [pb] at cb
      first | rw [nodesOwn_err (by omega)] at cb | rw [nodesOwn_ok] at cb
      refine CallsP.intro Tryd.func7 rfl (by show 2 ≤ 183; decide) ?_
      rintro X hX
      have hn : X.n = 183 := hX
      unfold Tryd.f7
      dsimp only
      rw [entry2]
      repeat' first
       | with_reducible refine Rl.go (by constructor <;> decide) ?_
       | ((with_reducible first | refine hK _ ?_ | refine hK.1 ?_ | refine hK.2 ?_); clear hK K)
       | ((with_reducible refine condS hK (fun hg => ?_) fun hg => ?_) <;> clear hK K <;> (try simp only [hgW] at hg) <;> try (exfalso; omega))
       | ((first | ((with_reducible first | refine Rk.go k7_VsQJoin (by constructor) ?_ | refine Rd.go 3 k7_VsQJoin a7_3_VsQJoin o7_3_VsQJoin mixed (by constructor) (by kernel_rfl) (by kernel_rfl) ?_); intro K hK) | with_reducible refine Rr.go [] (by constructor) ?_ | (with_reducible refine guardP_split (fun hg => ?_) fun hg => ?_) <;> (try simp only [hg]) <;> (try simp only [hgW] at hg) | refine Rc.go f14_ok (by constructor) ?_ | refine Rc.go c15a (by constructor) ?_ | refine Rc.go c15b (by constructor) ?_ | refine Rc.go ca (by constructor) ?_ | refine Rc.go cb (by constructor) ?_) <;> simp -implicitDefEqProofs only [hn, go_sem, simprocAttr] <;> try (simp (disch := omega) only [wrW]; try simp -implicitDefEqProofs only [hn, go_sem, simprocAttr]))
       | with_reducible refine And.intro (by first | omega | (simp only [hgW]; omega)) ?_
       | (exfalso; omega)
      all_goals (simp only [AV.bool.injEq, decide_eq_true_eq]; omega)
  rw [pa] at hsa hma
  rw [pa, nodesOwn_ok] at ca
  rcases pb with ⟨he', pb⟩ | ⟨hl2, pb⟩
  · rw [pb, nodesOwn_err (by omega)] at cb
    refine CallsP.intro Tryd.func7 rfl (by show 2 ≤ 183; decide) ?_
    rintro X hX
    have hn : X.n = 183 := hX
    unfold Tryd.f7
    dsimp only
    rw [entry2]
    repeat' first
     | with_reducible refine Rl.go (by constructor <;> decide) ?_
     | ((with_reducible first | refine hK _ ?_ | refine hK.1 ?_ | refine hK.2 ?_); clear hK K)
     | ((with_reducible refine condS hK (fun hg => ?_) fun hg => ?_) <;> clear hK K <;> (try simp only [hgW] at hg) <;> try (exfalso; omega))
     | ((first | ((with_reducible first | refine Rk.go k7_VsQJoin (by constructor) ?_ | refine Rd.go 3 k7_VsQJoin a7_3_VsQJoin o7_3_VsQJoin mixed (by constructor) (by kernel_rfl) (by kernel_rfl) ?_); intro K hK) | with_reducible refine Rr.go [] (by constructor) ?_ | (with_reducible refine guardP_split (fun hg => ?_) fun hg => ?_) <;> (try simp only [hg]) <;> (try simp only [hgW] at hg) | refine Rc.go f14_ok (by constructor) ?_ | refine Rc.go c15a (by constructor) ?_ | refine Rc.go c15b (by constructor) ?_ | refine Rc.go ca (by constructor) ?_ | refine Rc.go cb (by constructor) ?_) <;> simp -implicitDefEqProofs only [hn, go_sem, simprocAttr] <;> try (simp (disch := omega) only [wrW]; try simp -implicitDefEqProofs only [hn, go_sem, simprocAttr]))
     | with_reducible refine And.intro (by first | omega | (simp only [hgW]; omega)) ?_
     | (exfalso; omega)
    all_goals (simp only [AV.bool.injEq, decide_eq_true_eq]; omega)
  rw [pb] at hsb hmb
  rw [pb, nodesOwn_ok] at cb
  simp only at hsa hsb hma hmb
  by_cases hbig : A.length + B.length + 3 ≤ 4096 ∧ 1 + la.length + lb.length ≤ 256
  · obtain ⟨hbig1, hbig2⟩ := hbig
    have pp := pair hbig1 hbig2
    have cP := f17_own (91 :: (A ++ [44] ++ B ++ [93])) false
    rw [show (91 :: (A ++ [44] ++ B ++ [93]) : List UInt8) = 91 :: (A ++ 44 :: (B ++ [93])) by simp, pp, nodesOwn_ok, show (91 :: (A ++ 44 :: (B ++ [93])) : List UInt8) = 91 :: (A ++ [44] ++ B ++ [93]) by simp] at cP
    exact f7_good _ _ ⟨_, _, _, rfl, _, _, rfl⟩ ⟨_, _, _, rfl, _, _, rfl⟩ A B la lb c15a c15b ca cb hbig1 hbig2 hna hnb (fun x hx => ⟨hsa x hx, fun k hk => by have := hwa.2 x hx k hk; omega⟩) (fun x hx => ⟨hsb x hx, fun k hk => by have := hwb.2 x hx k hk; omega⟩) cP h18
  · refine CallsP.intro Tryd.func7 rfl (by show 2 ≤ 183; decide) ?_
    rintro X hX
    have hn : X.n = 183 := hX
    unfold Tryd.f7
    dsimp only
    rw [entry2]
    repeat' first
     | with_reducible refine Rl.go (by constructor <;> decide) ?_
     | ((with_reducible first | refine hK _ ?_ | refine hK.1 ?_ | refine hK.2 ?_); clear hK K)
     | ((with_reducible refine condS hK (fun hg => ?_) fun hg => ?_) <;> clear hK K <;> (try simp only [hgW] at hg) <;> try (exfalso; omega))
     | ((first | ((with_reducible first | refine Rk.go k7_VsQJoin (by constructor) ?_ | refine Rd.go 3 k7_VsQJoin a7_3_VsQJoin o7_3_VsQJoin mixed (by constructor) (by kernel_rfl) (by kernel_rfl) ?_); intro K hK) | with_reducible refine Rr.go [] (by constructor) ?_ | (with_reducible refine guardP_split (fun hg => ?_) fun hg => ?_) <;> (try simp only [hg]) <;> (try simp only [hgW] at hg) | refine Rc.go f14_ok (by constructor) ?_ | refine Rc.go c15a (by constructor) ?_ | refine Rc.go c15b (by constructor) ?_ | refine Rc.go ca (by constructor) ?_ | refine Rc.go cb (by constructor) ?_) <;> simp -implicitDefEqProofs only [hn, go_sem, simprocAttr] <;> try (simp (disch := omega) only [wrW]; try simp -implicitDefEqProofs only [hn, go_sem, simprocAttr]))
     | with_reducible refine And.intro (by first | omega | (simp only [hgW]; omega)) ?_
     | (exfalso; omega)
end Go.Proofs.YtfemncfhiihckaaDoor
