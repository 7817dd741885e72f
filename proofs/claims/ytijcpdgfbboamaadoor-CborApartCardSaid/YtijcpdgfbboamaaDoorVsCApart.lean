/- The law CborApart's code answers true for any two plans. -/
import Derived.Test.YtijcpdgfbboamaaDoorVsCBack
import Derived.Test.YtijcpdgfbboamaaDoorVsCTree
open Go Go.VS
namespace Go.Proofs.YtijcpdgfbboamaaDoor
set_option linter.unusedVariables false
set_option linter.unusedSimpArgs false
set_option maxRecDepth 20000
set_option maxHeartbeats 4000000
theorem headB_iff {x y : CI} : headB x y = true ↔ x.k = y.k ∧ x.n = y.n ∧ x.b = y.b ∧ x.ks.length = y.ks.length := by unfold headB; exact decide_eq_true_iff
theorem zipB_euc {f : CI → CI → Bool} (hf : ∀ u x y, f u x = true → f u y = true → f x y = true) : ∀ us xs ys, zipB f us xs = true → zipB f us ys = true → zipB f xs ys = true
  | [], [], [], _, _ => rfl
  | u :: us, x :: xs, y :: ys, h1, h2 => by
    simp only [zipB, Bool.and_eq_true] at h1 h2 ⊢
    exact ⟨hf u x y h1.1 h2.1, zipB_euc hf us xs ys h1.2 h2.2⟩
  | [], [], _ :: _, _, h => by cases h
  | [], _ :: _, _, h, _ => by cases h
  | _ :: _, [], _, h, _ => by cases h
  | _ :: _, _ :: _, [], _, h => by cases h
theorem sameB_euc : ∀ (d : Nat) (u x y : CI), sameB d u x = true → sameB d u y = true → sameB d x y = true
  | 0, u, x, y, h1, h2 => by
    have a := headB_iff.1 h1
    have b := headB_iff.1 h2
    exact headB_iff.2 ⟨a.1.symm.trans b.1, a.2.1.symm.trans b.2.1, a.2.2.1.symm.trans b.2.2.1, a.2.2.2.symm.trans b.2.2.2⟩
  | d + 1, u, x, y, h1, h2 => by
    simp only [sameB, Bool.and_eq_true] at h1 h2 ⊢
    have a := headB_iff.1 h1.1
    have b := headB_iff.1 h2.1
    exact ⟨headB_iff.2 ⟨a.1.symm.trans b.1, a.2.1.symm.trans b.2.1, a.2.2.1.symm.trans b.2.2.1, a.2.2.2.symm.trans b.2.2.2⟩, zipB_euc (sameB_euc d) _ _ _ h1.2 h2.2⟩
theorem sameB_head {d : Nat} {x y : CI} (h : sameB d x y = true) : x.k = y.k ∧ x.n = y.n ∧ x.b = y.b ∧ x.ks.length = y.ks.length := by
  cases d with
  | zero => exact headB_iff.1 h
  | succ d => simp only [sameB, Bool.and_eq_true] at h; exact headB_iff.1 h.1
theorem zipB_get {f : CI → CI → Bool} : ∀ {xs ys : List CI}, zipB f xs ys = true → xs.length = ys.length ∧ ∀ j, j < xs.length → f (xs.getD j default) (ys.getD j default) = true
  | [], [], _ => ⟨rfl, fun j h => by cases h⟩
  | x :: xs, y :: ys, h => by
    simp only [zipB, Bool.and_eq_true] at h
    obtain ⟨h1, h2⟩ := zipB_get h.2
    refine ⟨by simp [h1], fun j hj => ?_⟩
    cases j with
    | zero => exact h.1
    | succ j => exact h2 j (by simpa using hj)
  | [], _ :: _, h => by cases h
  | _ :: _, [], h => by cases h
theorem kids_same {it : CI → WS → Nat × WS} {d : Nat} (hi : ∀ x y, sameB d x y = true → ∀ w, it x w = it y w) (pair : Bool) {ks ks' : List CI} (h : zipB (sameB d) ks ks' = true) :
    ∀ (n k : Nat) (w : WS), k + n = ks.length → kidsW it badO pair ks n k w = kidsW it badO pair ks' n k w
  | 0, k, w, _ => rfl
  | n + 1, k, w, hk => by
    obtain ⟨h1, h2⟩ := zipB_get h
    have a := h2 k (by omega)
    have b := h2 (k - 2) (by omega)
    have ha := sameB_head a
    have hb := sameB_head b
    have e1 : plainS (ks.getD k default) = plainS (ks'.getD k default) := by unfold plainS; rw [ha.1]
    have e2 : badO (ks.getD (k - 2) default) (ks.getD k default) = badO (ks'.getD (k - 2) default) (ks'.getD k default) := by
      unfold badO orderS
      rw [ha.1, ha.2.1, ha.2.2.1, hb.1, hb.2.1, hb.2.2.1]
    simp only [kidsW]
    rw [e1, e2, hi _ _ a w]
    split
    · rfl
    split
    · rfl
    split
    · rfl
    · exact kids_same hi pair h n (k + 1) _ (by omega)
theorem item_same (valid : List UInt8 → Bool) : ∀ (d : Nat) (x y : CI), sameB d x y = true → ∀ w, itemW valid badO d x w = itemW valid badO d y w := by
  intro d x y h w
  have hh := sameB_head h
  unfold itemW
  simp only
  rw [hh.1, hh.2.1, hh.2.2.1, hh.2.2.2]
  cases d with
  | zero => rfl
  | succ d =>
    simp only [sameB, Bool.and_eq_true] at h
    simp only
    have kk : ∀ (p : Bool) (w : WS), kidsW (itemW valid badO d) badO p x.ks y.ks.length 0 w = kidsW (itemW valid badO d) badO p y.ks y.ks.length 0 w := fun p w => kids_same (item_same valid d) p h.2 _ _ _ (by omega)
    simp only [kk]
theorem enc_apart {x y : CI} {a b : List UInt8} (hx : Fit 8 x) (hy : Fit 8 y) (sx : sameB 8 (canS x) x = true) (sy : sameB 8 (canS y) y = true) (ha : encS Go.Lib.validD x = (a, 0)) (hb : encS Go.Lib.validD y = (b, 0)) : (a == b) = sameB 8 x y := by
  by_cases h : a = b
  · subst h
    have la := enc_len ha
    have d1 := dec_enc hx ha [] (by simpa using la)
    have d2 := dec_enc hy hb [] (by simpa using la)
    rw [d1] at d2
    have e : canS x = canS y := congrArg Prod.fst d2
    rw [e] at sx
    rw [sameB_euc 8 _ _ _ sx sy]
    simp
  · have : sameB 8 x y = false := by
      cases e : sameB 8 x y with
      | false => rfl
      | true =>
        have := item_same Go.Lib.validD 8 x y e ⟨[], 0⟩
        unfold encS at ha hb
        rw [this, hb] at ha
        exact absurd (congrArg Prod.fst ha).symm h
    rw [this]
    simpa using h
def tree13 : OTree :=
  (.br 0 (.br 1 (.br 2 (.br 3 (.br 4 (.br 5 (.br 6 (.br 7 .leaf .stop) .stop) .stop) (.br 5 (.br 4 (.br 6 (.br 7 .leaf .stop) .stop) .stop) .stop)) (.br 4 (.br 3 (.br 5 (.br 6 (.br 7 .leaf .stop) .stop) .stop) (.br 5 (.br 3 (.br 6 (.br 7 .leaf .stop) .stop) .stop) .stop)) (.br 5 (.br 3 (.br 4 (.br 6 (.br 7 .leaf .stop) .stop) .stop) (.br 4 (.br 3 (.br 6 (.br 7 .leaf .stop) .stop) .stop) .stop)) .stop))) (.br 4 (.br 2 (.br 3 (.br 5 (.br 6 (.br 7 .leaf .stop) .stop) .stop) (.br 5 (.br 3 (.br 6 (.br 7 .leaf .stop) .stop) .stop) .stop)) (.br 5 (.br 2 (.br 3 (.br 6 (.br 7 .leaf .stop) .stop) .stop) .stop) .stop)) (.br 5 (.br 2 (.br 3 (.br 4 (.br 6 (.br 7 .leaf .stop) .stop) .stop) (.br 4 (.br 3 (.br 6 (.br 7 .leaf .stop) .stop) .stop) .stop)) (.br 4 (.br 2 (.br 3 (.br 6 (.br 7 .leaf .stop) .stop) .stop) .stop) .stop)) .stop))) (.br 2 (.br 1 (.br 3 (.br 4 (.br 5 (.br 6 (.br 7 .leaf .stop) .stop) .stop) (.br 5 (.br 4 (.br 6 (.br 7 .leaf .stop) .stop) .stop) .stop)) (.br 4 (.br 3 (.br 5 (.br 6 (.br 7 .leaf .stop) .stop) .stop) (.br 5 (.br 3 (.br 6 (.br 7 .leaf .stop) .stop) .stop) .stop)) (.br 5 (.br 3 (.br 4 (.br 6 (.br 7 .leaf .stop) .stop) .stop) (.br 4 (.br 3 (.br 6 (.br 7 .leaf .stop) .stop) .stop) .stop)) .stop))) (.br 4 (.br 1 (.br 3 (.br 5 (.br 6 (.br 7 .leaf .stop) .stop) .stop) (.br 5 (.br 3 (.br 6 (.br 7 .leaf .stop) .stop) .stop) .stop)) (.br 5 (.br 1 (.br 3 (.br 6 (.br 7 .leaf .stop) .stop) .stop) .stop) .stop)) (.br 5 (.br 1 (.br 3 (.br 4 (.br 6 (.br 7 .leaf .stop) .stop) .stop) (.br 4 (.br 3 (.br 6 (.br 7 .leaf .stop) .stop) .stop) .stop)) (.br 4 (.br 1 (.br 3 (.br 6 (.br 7 .leaf .stop) .stop) .stop) .stop) .stop)) .stop))) (.br 4 (.br 1 (.br 2 (.br 3 (.br 5 (.br 6 (.br 7 .leaf .stop) .stop) .stop) (.br 5 (.br 3 (.br 6 (.br 7 .leaf .stop) .stop) .stop) .stop)) (.br 5 (.br 2 (.br 3 (.br 6 (.br 7 .leaf .stop) .stop) .stop) .stop) .stop)) (.br 2 (.br 1 (.br 3 (.br 5 (.br 6 (.br 7 .leaf .stop) .stop) .stop) (.br 5 (.br 3 (.br 6 (.br 7 .leaf .stop) .stop) .stop) .stop)) (.br 5 (.br 1 (.br 3 (.br 6 (.br 7 .leaf .stop) .stop) .stop) .stop) .stop)) (.br 5 (.br 1 (.br 2 (.br 3 (.br 6 (.br 7 .leaf .stop) .stop) .stop) .stop) (.br 2 (.br 1 (.br 3 (.br 6 (.br 7 .leaf .stop) .stop) .stop) .stop) .stop)) .stop))) (.br 5 (.br 1 (.br 2 (.br 3 (.br 4 (.br 6 (.br 7 .leaf .stop) .stop) .stop) (.br 4 (.br 3 (.br 6 (.br 7 .leaf .stop) .stop) .stop) .stop)) (.br 4 (.br 2 (.br 3 (.br 6 (.br 7 .leaf .stop) .stop) .stop) .stop) .stop)) (.br 2 (.br 1 (.br 3 (.br 4 (.br 6 (.br 7 .leaf .stop) .stop) .stop) (.br 4 (.br 3 (.br 6 (.br 7 .leaf .stop) .stop) .stop) .stop)) (.br 4 (.br 1 (.br 3 (.br 6 (.br 7 .leaf .stop) .stop) .stop) .stop) .stop)) (.br 4 (.br 1 (.br 2 (.br 3 (.br 6 (.br 7 .leaf .stop) .stop) .stop) .stop) (.br 2 (.br 1 (.br 3 (.br 6 (.br 7 .leaf .stop) .stop) .stop) .stop) .stop)) .stop))) .stop)))) (.br 2 (.br 0 (.br 1 (.br 3 (.br 4 (.br 5 (.br 6 (.br 7 .leaf .stop) .stop) .stop) (.br 5 (.br 4 (.br 6 (.br 7 .leaf .stop) .stop) .stop) .stop)) (.br 4 (.br 3 (.br 5 (.br 6 (.br 7 .leaf .stop) .stop) .stop) (.br 5 (.br 3 (.br 6 (.br 7 .leaf .stop) .stop) .stop) .stop)) (.br 5 (.br 3 (.br 4 (.br 6 (.br 7 .leaf .stop) .stop) .stop) (.br 4 (.br 3 (.br 6 (.br 7 .leaf .stop) .stop) .stop) .stop)) .stop))) (.br 4 (.br 1 (.br 3 (.br 5 (.br 6 (.br 7 .leaf .stop) .stop) .stop) (.br 5 (.br 3 (.br 6 (.br 7 .leaf .stop) .stop) .stop) .stop)) (.br 5 (.br 1 (.br 3 (.br 6 (.br 7 .leaf .stop) .stop) .stop) .stop) .stop)) (.br 5 (.br 1 (.br 3 (.br 4 (.br 6 (.br 7 .leaf .stop) .stop) .stop) (.br 4 (.br 3 (.br 6 (.br 7 .leaf .stop) .stop) .stop) .stop)) (.br 4 (.br 1 (.br 3 (.br 6 (.br 7 .leaf .stop) .stop) .stop) .stop) .stop)) .stop))) (.br 4 (.br 0 (.br 1 (.br 3 (.br 5 (.br 6 (.br 7 .leaf .stop) .stop) .stop) (.br 5 (.br 3 (.br 6 (.br 7 .leaf .stop) .stop) .stop) .stop)) (.br 5 (.br 1 (.br 3 (.br 6 (.br 7 .leaf .stop) .stop) .stop) .stop) .stop)) (.br 5 (.br 0 (.br 1 (.br 3 (.br 6 (.br 7 .leaf .stop) .stop) .stop) .stop) .stop) .stop)) (.br 5 (.br 0 (.br 1 (.br 3 (.br 4 (.br 6 (.br 7 .leaf .stop) .stop) .stop) (.br 4 (.br 3 (.br 6 (.br 7 .leaf .stop) .stop) .stop) .stop)) (.br 4 (.br 1 (.br 3 (.br 6 (.br 7 .leaf .stop) .stop) .stop) .stop) .stop)) (.br 4 (.br 0 (.br 1 (.br 3 (.br 6 (.br 7 .leaf .stop) .stop) .stop) .stop) .stop) .stop)) .stop))) (.br 4 (.br 0 (.br 1 (.br 2 (.br 3 (.br 5 (.br 6 (.br 7 .leaf .stop) .stop) .stop) (.br 5 (.br 3 (.br 6 (.br 7 .leaf .stop) .stop) .stop) .stop)) (.br 5 (.br 2 (.br 3 (.br 6 (.br 7 .leaf .stop) .stop) .stop) .stop) .stop)) (.br 2 (.br 1 (.br 3 (.br 5 (.br 6 (.br 7 .leaf .stop) .stop) .stop) (.br 5 (.br 3 (.br 6 (.br 7 .leaf .stop) .stop) .stop) .stop)) (.br 5 (.br 1 (.br 3 (.br 6 (.br 7 .leaf .stop) .stop) .stop) .stop) .stop)) (.br 5 (.br 1 (.br 2 (.br 3 (.br 6 (.br 7 .leaf .stop) .stop) .stop) .stop) (.br 2 (.br 1 (.br 3 (.br 6 (.br 7 .leaf .stop) .stop) .stop) .stop) .stop)) .stop))) (.br 2 (.br 0 (.br 1 (.br 3 (.br 5 (.br 6 (.br 7 .leaf .stop) .stop) .stop) (.br 5 (.br 3 (.br 6 (.br 7 .leaf .stop) .stop) .stop) .stop)) (.br 5 (.br 1 (.br 3 (.br 6 (.br 7 .leaf .stop) .stop) .stop) .stop) .stop)) (.br 5 (.br 0 (.br 1 (.br 3 (.br 6 (.br 7 .leaf .stop) .stop) .stop) .stop) .stop) .stop)) (.br 5 (.br 0 (.br 1 (.br 2 (.br 3 (.br 6 (.br 7 .leaf .stop) .stop) .stop) .stop) (.br 2 (.br 1 (.br 3 (.br 6 (.br 7 .leaf .stop) .stop) .stop) .stop) .stop)) (.br 2 (.br 0 (.br 1 (.br 3 (.br 6 (.br 7 .leaf .stop) .stop) .stop) .stop) .stop) .stop)) .stop))) (.br 5 (.br 0 (.br 1 (.br 2 (.br 3 (.br 4 (.br 6 (.br 7 .leaf .stop) .stop) .stop) (.br 4 (.br 3 (.br 6 (.br 7 .leaf .stop) .stop) .stop) .stop)) (.br 4 (.br 2 (.br 3 (.br 6 (.br 7 .leaf .stop) .stop) .stop) .stop) .stop)) (.br 2 (.br 1 (.br 3 (.br 4 (.br 6 (.br 7 .leaf .stop) .stop) .stop) (.br 4 (.br 3 (.br 6 (.br 7 .leaf .stop) .stop) .stop) .stop)) (.br 4 (.br 1 (.br 3 (.br 6 (.br 7 .leaf .stop) .stop) .stop) .stop) .stop)) (.br 4 (.br 1 (.br 2 (.br 3 (.br 6 (.br 7 .leaf .stop) .stop) .stop) .stop) (.br 2 (.br 1 (.br 3 (.br 6 (.br 7 .leaf .stop) .stop) .stop) .stop) .stop)) .stop))) (.br 2 (.br 0 (.br 1 (.br 3 (.br 4 (.br 6 (.br 7 .leaf .stop) .stop) .stop) (.br 4 (.br 3 (.br 6 (.br 7 .leaf .stop) .stop) .stop) .stop)) (.br 4 (.br 1 (.br 3 (.br 6 (.br 7 .leaf .stop) .stop) .stop) .stop) .stop)) (.br 4 (.br 0 (.br 1 (.br 3 (.br 6 (.br 7 .leaf .stop) .stop) .stop) .stop) .stop) .stop)) (.br 4 (.br 0 (.br 1 (.br 2 (.br 3 (.br 6 (.br 7 .leaf .stop) .stop) .stop) .stop) (.br 2 (.br 1 (.br 3 (.br 6 (.br 7 .leaf .stop) .stop) .stop) .stop) .stop)) (.br 2 (.br 0 (.br 1 (.br 3 (.br 6 (.br 7 .leaf .stop) .stop) .stop) .stop) .stop) .stop)) .stop))) .stop))))
theorem swap65 (p q a b : List AV) : lkB [(2, p), (3, q), (6, a), (5, b)] = lkB [(2, p), (3, q), (5, b), (6, a)] := by
  funext t
  simp only [lkB]
  by_cases e : t = 6
  · subst e; rfl
  · simp [e]
def k13_VsCApart : List Nat := [0,1,2,3,4,5,6,7,8,9,10,12,32]
def a13_8_VsCApart : List Nat := [0,1,0,4,15,0,0,96,255,511]
def o13_8_VsCApart : List Nat := [5,6,7,0,1,2,3,4,8,9]
attribute [go_sem] k13_VsCApart a13_8_VsCApart o13_8_VsCApart
theorem f13_ok (p q : CI) (hp : PlanD 6 p) (hq : PlanD 6 q) : CallsP Tryd.prog 13 [p.av, q.av] (.bool true) := by
  have c20 := made_ok 5 (by decide) p hp
  have c20b := made_ok 5 (by decide) q hq
  have hf := made_fit 8 5 p hp
  have hfb := made_fit 8 5 q hq
  have hs := made_same 5 p 8
  have hsb := made_same 5 q 8
  have hw := made_wide 5 p 7 (by decide)
  have hwb := made_wide 5 q 7 (by decide)
  have c25 := f25_ok validI (madeS 5 p) hf
  have c25b := f25_ok validI (madeS 5 q) hfb
  have c27 := f27_all 8 (madeS 5 p) (madeS 5 q) hw hwb
  generalize madeS 5 p = x at *
  generalize madeS 5 q = y at *
  obtain ⟨a, ea, ha⟩ : ∃ a ea, encS Go.Lib.validD x = (a, ea) := ⟨_, _, rfl⟩
  obtain ⟨b, eb, hb⟩ : ∃ b eb, encS Go.Lib.validD y = (b, eb) := ⟨_, _, rfl⟩
  have key := fun h1 h2 => @enc_apart x y a b hf hfb hs hsb h1 h2
  rw [ha] at c25 key
  rw [hb] at c25b key
  simp only at c25 c25b
  obtain ⟨pk, pn, pbn, pb, pkn, pks⟩ := p
  obtain ⟨qk, qn, qbn, qb, qkn, qks⟩ := q
  generalize sameB 8 x y = S at *
  obtain ⟨xk, xn, xbn, xb, xkn, xks⟩ := x
  obtain ⟨yk, yn, ybn, yb, ykn, yks⟩ := y
  simp only [av_mk', bytesAV] at *
  refine CallsP.intro Tryd.func13 rfl (by show 2 ≤ 42; decide) ?_
  rintro X hX
  have hn : X.n = 42 := hX
  unfold Tryd.f13
  dsimp only
  rw [entry2]
  repeat' first
    | (with_reducible refine markQ 3 ?_)
    | with_reducible (first | refine AWP.seqA ?_ | refine AWP.seqB ?_ | refine AWP.block ?_ | refine AWP.skipN ?_ | refine AWP.skip ?_ | refine AWP.exit ?_ | refine AWP.ret ?_ | refine LoopN.succ ?_ | refine thenS_n ?_ | refine thenS_x ?_ | refine thenS_r ?_ | refine blockS_n ?_ | refine blockS_r ?_ | refine blockS_x ?_ | refine blockS_y (by decide) ?_)
    | ((with_reducible refine hK _ ?_); clear hK K) | ((with_reducible refine hKt ?_); clear hKt hKf Kt Kf) | ((with_reducible refine hKf ?_); clear hKt hKf Kt Kf) | ((with_reducible refine condP_split (fun hg => hKt ?_) (fun hg => hKf ?_)) <;> clear hKt hKf Kt Kf <;> (try simp only [hgW] at hg) <;> try (exfalso; omega))
    | ((first | (with_reducible refine guardP_split (fun hg => ?_) (fun hg => ?_)) <;> simp -implicitDefEqProofs only [hg, av_mk', Int.cast_ofNat_Int, hn, go_sem, simprocAttr] <;> (try simp only [hgW] at hg) | ((first | with_reducible (first | refine AWP.seqRB k13_VsCApart fun K hK => ?_ | refine AWP.lastRB k13_VsCApart fun K hK => ?_ | refine AWP.seqD (id := 8) k13_VsCApart a13_8_VsCApart o13_8_VsCApart mixed (by kernel_rfl) (by kernel_rfl) fun K hK => ?_ | refine AWP.lastD (id := 8) k13_VsCApart a13_8_VsCApart o13_8_VsCApart mixed (by kernel_rfl) (by kernel_rfl) fun K hK => ?_ | refine AWP.seqC fun Kt Kf hKt hKf => ?_ | refine AWP.condK fun Kt Kf hKt hKf => ?_ | refine retS_ret ?_ | refine retS_end ?_) | refine callE_P (f17_ok) ?_ | refine callP_intro2 (f17_ok) ?_ | refine callE_X (f17_ok) ?_); simp -implicitDefEqProofs only [av_mk', Int.cast_ofNat_Int, hn, go_sem, simprocAttr])) <;> try simp (disch := omega) only [wrW])
    | with_reducible refine And.intro (by first | omega | (simp only [hgW]; omega)) ?_
    | (exfalso; omega)
  unfold MarkQ
  refine AWP.seqT [4, 5, 6] tree13 (S := St.mk (lk [(4, .bool false), (5, .ptr 5 0), (6, .ptr 6 0)])
      (lkB [(2, [.int .u8 (pk : Int), .int .u64 (pn : Int), .sl none pbn 1 (pb.map u8), .sl none pkn 4 (pks.map CI.av)]), (3, [.int .u8 (qk : Int), .int .u64 (qn : Int), .sl none qbn 1 (qb.map u8), .sl none qkn 4 (qks.map CI.av)]),
        (5, [.int .u8 (xk : Int), .int .u64 (xn : Int), .sl none xbn 1 (xb.map u8), .sl none xkn 4 (xks.map CI.av)]), (6, [.int .u8 (yk : Int), .int .u64 (yn : Int), .sl none ybn 1 (yb.map u8), .sl none ykn 4 (yks.map CI.av)])])
      (hasS []) (hasS []) (hasN []) (lkR [])) mixed (by kernel_rfl) ?_ ?_
  · unfold tree13
    simp -implicitDefEqProofs only [VT_br, VT_leaf, VT_stop, av_mk', Int.cast_ofNat_Int, hn, go_sem, simprocAttr]
    repeat' first
      | with_reducible refine conjT_mk ?_ ?_
      | with_reducible exact trivial
      | with_reducible rfl
      | ((first | refine callP_intro2 c20 ?_ | refine callP_intro2 c20b ?_); simp -implicitDefEqProofs only [VT_br, VT_leaf, VT_stop, av_mk', swap65, Int.cast_ofNat_Int, hn, go_sem, simprocAttr])
      | with_reducible refine And.intro (by first | omega | (simp only [hgW]; omega)) ?_
  by_cases h1 : ea = 0
  · by_cases h2 : eb = 0
    · subst h1
      subst h2
      have key := key rfl rfl
      repeat' first
        | with_reducible (first | refine AWP.seqA ?_ | refine AWP.seqB ?_ | refine AWP.block ?_ | refine AWP.skipN ?_ | refine AWP.skip ?_ | refine AWP.exit ?_ | refine AWP.ret ?_ | refine LoopN.succ ?_ | refine thenS_n ?_ | refine thenS_x ?_ | refine thenS_r ?_ | refine blockS_n ?_ | refine blockS_r ?_ | refine blockS_x ?_ | refine blockS_y (by decide) ?_)
        | ((with_reducible refine hK _ ?_); clear hK K) | ((with_reducible refine hKt ?_); clear hKt hKf Kt Kf) | ((with_reducible refine hKf ?_); clear hKt hKf Kt Kf) | ((with_reducible refine condP_split (fun hg => hKt ?_) (fun hg => hKf ?_)) <;> clear hKt hKf Kt Kf <;> (try simp only [hgW] at hg) <;> try (exfalso; omega))
        | ((first | (with_reducible refine guardP_split (fun hg => ?_) (fun hg => ?_)) <;> simp -implicitDefEqProofs only [hg, av_mk', key, Int.cast_ofNat_Int, hn, go_sem, simprocAttr] <;> (try simp only [hgW] at hg) | ((first | with_reducible (first | refine AWP.seqRB k13_VsCApart fun K hK => ?_ | refine AWP.lastRB k13_VsCApart fun K hK => ?_ | refine AWP.seqD (id := 8) k13_VsCApart a13_8_VsCApart o13_8_VsCApart mixed (by kernel_rfl) (by kernel_rfl) fun K hK => ?_ | refine AWP.lastD (id := 8) k13_VsCApart a13_8_VsCApart o13_8_VsCApart mixed (by kernel_rfl) (by kernel_rfl) fun K hK => ?_ | refine AWP.seqC fun Kt Kf hKt hKf => ?_ | refine AWP.condK fun Kt Kf hKt hKf => ?_ | refine retS_ret ?_ | refine retS_end ?_) | refine callE_P (c25) ?_ | refine callP_intro2 (c25) ?_ | refine callE_X (c25) ?_ | refine callE_P (c25b) ?_ | refine callP_intro2 (c25b) ?_ | refine callE_X (c25b) ?_ | refine callE_P (c27) ?_ | refine callP_intro2 (c27) ?_ | refine callE_X (c27) ?_); simp -implicitDefEqProofs only [av_mk', key, Int.cast_ofNat_Int, hn, go_sem, simprocAttr])) <;> try simp (disch := omega) only [wrW])
        | with_reducible refine And.intro (by first | omega | (simp only [hgW]; omega)) ?_
        | (exfalso; omega)
    · skip
      repeat' first
        | with_reducible (first | refine AWP.seqA ?_ | refine AWP.seqB ?_ | refine AWP.block ?_ | refine AWP.skipN ?_ | refine AWP.skip ?_ | refine AWP.exit ?_ | refine AWP.ret ?_ | refine LoopN.succ ?_ | refine thenS_n ?_ | refine thenS_x ?_ | refine thenS_r ?_ | refine blockS_n ?_ | refine blockS_r ?_ | refine blockS_x ?_ | refine blockS_y (by decide) ?_)
        | ((with_reducible refine hK _ ?_); clear hK K) | ((with_reducible refine hKt ?_); clear hKt hKf Kt Kf) | ((with_reducible refine hKf ?_); clear hKt hKf Kt Kf) | ((with_reducible refine condP_split (fun hg => hKt ?_) (fun hg => hKf ?_)) <;> clear hKt hKf Kt Kf <;> (try simp only [hgW] at hg) <;> try (exfalso; omega))
        | ((first | (with_reducible refine guardP_split (fun hg => ?_) (fun hg => ?_)) <;> simp -implicitDefEqProofs only [hg, av_mk', Int.cast_ofNat_Int, hn, go_sem, simprocAttr] <;> (try simp only [hgW] at hg) | ((first | with_reducible (first | refine AWP.seqRB k13_VsCApart fun K hK => ?_ | refine AWP.lastRB k13_VsCApart fun K hK => ?_ | refine AWP.seqD (id := 8) k13_VsCApart a13_8_VsCApart o13_8_VsCApart mixed (by kernel_rfl) (by kernel_rfl) fun K hK => ?_ | refine AWP.lastD (id := 8) k13_VsCApart a13_8_VsCApart o13_8_VsCApart mixed (by kernel_rfl) (by kernel_rfl) fun K hK => ?_ | refine AWP.seqC fun Kt Kf hKt hKf => ?_ | refine AWP.condK fun Kt Kf hKt hKf => ?_ | refine retS_ret ?_ | refine retS_end ?_) | refine callE_P (c25) ?_ | refine callP_intro2 (c25) ?_ | refine callE_X (c25) ?_ | refine callE_P (c25b) ?_ | refine callP_intro2 (c25b) ?_ | refine callE_X (c25b) ?_ | refine callE_P (c27) ?_ | refine callP_intro2 (c27) ?_ | refine callE_X (c27) ?_); simp -implicitDefEqProofs only [av_mk', Int.cast_ofNat_Int, hn, go_sem, simprocAttr])) <;> try simp (disch := omega) only [wrW])
        | with_reducible refine And.intro (by first | omega | (simp only [hgW]; omega)) ?_
        | (exfalso; omega)
  · skip
    repeat' first
      | with_reducible (first | refine AWP.seqA ?_ | refine AWP.seqB ?_ | refine AWP.block ?_ | refine AWP.skipN ?_ | refine AWP.skip ?_ | refine AWP.exit ?_ | refine AWP.ret ?_ | refine LoopN.succ ?_ | refine thenS_n ?_ | refine thenS_x ?_ | refine thenS_r ?_ | refine blockS_n ?_ | refine blockS_r ?_ | refine blockS_x ?_ | refine blockS_y (by decide) ?_)
      | ((with_reducible refine hK _ ?_); clear hK K) | ((with_reducible refine hKt ?_); clear hKt hKf Kt Kf) | ((with_reducible refine hKf ?_); clear hKt hKf Kt Kf) | ((with_reducible refine condP_split (fun hg => hKt ?_) (fun hg => hKf ?_)) <;> clear hKt hKf Kt Kf <;> (try simp only [hgW] at hg) <;> try (exfalso; omega))
      | ((first | (with_reducible refine guardP_split (fun hg => ?_) (fun hg => ?_)) <;> simp -implicitDefEqProofs only [hg, av_mk', Int.cast_ofNat_Int, hn, go_sem, simprocAttr] <;> (try simp only [hgW] at hg) | ((first | with_reducible (first | refine AWP.seqRB k13_VsCApart fun K hK => ?_ | refine AWP.lastRB k13_VsCApart fun K hK => ?_ | refine AWP.seqD (id := 8) k13_VsCApart a13_8_VsCApart o13_8_VsCApart mixed (by kernel_rfl) (by kernel_rfl) fun K hK => ?_ | refine AWP.lastD (id := 8) k13_VsCApart a13_8_VsCApart o13_8_VsCApart mixed (by kernel_rfl) (by kernel_rfl) fun K hK => ?_ | refine AWP.seqC fun Kt Kf hKt hKf => ?_ | refine AWP.condK fun Kt Kf hKt hKf => ?_ | refine retS_ret ?_ | refine retS_end ?_) | refine callE_P (c25) ?_ | refine callP_intro2 (c25) ?_ | refine callE_X (c25) ?_ | refine callE_P (c25b) ?_ | refine callP_intro2 (c25b) ?_ | refine callE_X (c25b) ?_ | refine callE_P (c27) ?_ | refine callP_intro2 (c27) ?_ | refine callE_X (c27) ?_); simp -implicitDefEqProofs only [av_mk', Int.cast_ofNat_Int, hn, go_sem, simprocAttr])) <;> try simp (disch := omega) only [wrW])
      | with_reducible refine And.intro (by first | omega | (simp only [hgW]; omega)) ?_
      | (exfalso; omega)
end Go.Proofs.YtijcpdgfbboamaaDoor
