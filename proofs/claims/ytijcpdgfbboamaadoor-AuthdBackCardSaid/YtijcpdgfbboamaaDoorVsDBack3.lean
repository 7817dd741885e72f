/- What is written is read as it was said: plain. -/
import Derived.Test.YtijcpdgfbboamaaDoorVsDOneL
import Derived.Test.YtijcpdgfbboamaaDoorVsDMade
import Derived.Test.YtijcpdgfbboamaaDoorVsCBack
import Derived.Test.YtijcpdgfbboamaaDoorVsDAwake
import Derived.Test.YtijcpdgfbboamaaDoorVsDOk
import Derived.Test.YtijcpdgfbboamaaDoorVsDWrite2
open Go Go.VS
namespace Go.Proofs.YtijcpdgfbboamaaDoor
set_option linter.unusedVariables false
set_option linter.unusedSimpArgs false
theorem bits_acc (p v h x : Bool) : badF (UInt8.ofNat (accF p v h x 4)) = false ∧ bit (UInt8.ofNat (accF p v h x 4)) 1 = p ∧ bit (UInt8.ofNat (accF p v h x 4)) 4 = v ∧ bit (UInt8.ofNat (accF p v h x 4)) 64 = h ∧ bit (UInt8.ofNat (accF p v h x 4)) 128 = x := by
  cases p <;> cases v <;> cases h <;> cases x <;> decide
structure AD.Norm (d : AD) : Prop where
  held : d.h = false → d.ms = z16 ∧ d.cn = true ∧ d.cred = [] ∧ d.key = .zero
  ext : d.exts.k ≠ 6 → d.exts = .zero
def canX (x : CI) : CI := if x.k = 6 then canS x else x
def canD (d : AD) : AD := { d with cn := !d.h, key := if d.h = true then canS d.key else d.key, exts := canX d.exts }
theorem keys_can (ks : List CI) : ∀ (n i : Nat), ks.length - i = n → keysFrom (ks.map canS) i = keysFrom ks i
  | 0, i, h => by rw [keysFrom_end _ _ (by rw [List.length_map]; omega), keysFrom_end _ _ (by omega)]
  | n + 1, i, h => by
    have hi : i < ks.length := by omega
    rw [keysFrom_step _ _ (by rw [List.length_map]; exact hi), keysFrom_step _ _ hi, keys_can ks n (i + 1) (by omega)]
    have : (ks.map canS).getD i default = canS (ks.getD i default) := by
      rw [List.getD_eq_getElem?_getD, List.getElem?_map, List.getD_eq_getElem?_getD, List.getElem?_eq_getElem hi]
      rfl
    rw [this, canS_k]
theorem ext_write {valid : List UInt8 → Bool} {d : AD} {out b : List UInt8} (hf : Fit 8 d.exts) (hn : d.exts.k ≠ 6 → d.exts = .zero) (h : extW valid d out = (b, 0)) :
    ∃ r, b = out ++ r ∧ r.length ≤ 8192 ∧ ∀ (f : UInt8) (D : AD), D.exts = .zero → bit f 128 = decide (d.exts.k = 6) → extS valid f D r = ({ D with exts := canX d.exts }, 0) := by
  unfold extW at h
  by_cases hk : d.exts.k = 6
  · rw [if_pos hk] at h
    have hl := enc_len2 valid d.exts
    obtain ⟨E, hE⟩ : ∃ E, encS valid d.exts = E := ⟨_, rfl⟩
    rw [hE] at h hl
    obtain ⟨c, e⟩ := E
    simp only at h hl
    by_cases he : e = 0
    · subst he
      rw [if_neg (by simp)] at h
      by_cases hkt : keysFrom d.exts.ks 0 = false
      · rw [if_pos hkt] at h; exact absurd (congrArg Prod.snd h) (show ¬ (60 : Nat) = 0 by decide)
      rw [if_neg hkt] at h
      have hkt : keysFrom d.exts.ks 0 = true := by simpa using hkt
      refine ⟨c, (congrArg Prod.fst h).symm, hl, fun f D hD hb => ?_⟩
      unfold extS
      rw [if_pos (by rw [hb]; simpa using hk)]
      have hd := dec_enc hf hE [] (by simpa using hl)
      rw [List.append_nil] at hd
      have ht : textsS (canS d.exts) = true := by
        unfold textsS
        rw [canS_k, hk, canS_grp _ (.inr hk)]
        show (decide (6 = 6) && keysFrom (d.exts.ks.map canS) 0) = true
        rw [keys_can _ _ 0 rfl, hkt]
        rfl
      rw [hd]
      simp only
      rw [if_neg (by simp), if_neg (by rw [ht]; decide)]
      unfold endS canX
      rw [if_pos hk]
      rfl
    · rw [if_pos he] at h
      exact absurd (congrArg Prod.snd h) he
  · rw [if_neg hk] at h
    refine ⟨[], by rw [List.append_nil]; exact (congrArg Prod.fst h).symm, by decide, fun f D hD hb => ?_⟩
    unfold extS
    rw [if_neg (by rw [hb]; simpa using hk)]
    unfold endS canX
    rw [if_pos rfl, if_neg hk, hn hk, ← hD]
theorem lenB_n (n : Nat) (h : n ≤ 128) : n = (UInt8.ofNat (n / 256)).toNat * 256 + (UInt8.ofNat n).toNat := by
  have e : ∀ m : Nat, (UInt8.ofNat m).toNat = m % 256 := fun m => by simp
  rw [e, e]
  omega
theorem auth_write {valid : List UInt8 → Bool} {d : AD} {b : List UInt8} (hw : d.Wr) (hn : d.Norm) (h : writeS valid d = (b, 0)) : (authS valid b = (canD d, 0) ∨ ∃ D, authS valid b = (D, 3)) ∧ b.length ≤ 20000 := by
  obtain ⟨hs, p, v, hh, cnt, ms, cn, cred, key, exts⟩ := d
  obtain ⟨h1, h2, h3, h4, h5, h6, h7⟩ := hw
  obtain ⟨n1, n2⟩ := hn
  simp only at h1 h2 h3 h4 h5 h6 h7 n1 n2
  obtain ⟨b0, b1, b2, b3, b4⟩ := bits_acc p v hh (decide (exts.k = 6))
  obtain ⟨fl, hfl⟩ : ∃ fl, UInt8.ofNat (accF p v hh (decide (exts.k = 6)) 4) = fl := ⟨_, rfl⟩
  rw [hfl] at b0 b1 b2 b3 b4
  have hbe := be_kb cnt h3
  unfold writeS headD at h
  simp only [hfl] at h
  have cut : ∀ r, authS valid (hs ++ fl :: (kb cnt ++ r)) = heldS valid fl ⟨hs, p, v, hh, cnt, z16, true, [], .zero, .zero⟩ r := fun r => by
    have := authS_cut valid h1 fl (UInt8.ofNat (cnt / 16777216)) (UInt8.ofNat (cnt / 65536)) (UInt8.ofNat (cnt / 256)) (UInt8.ofNat cnt) r
    rw [if_neg (by rw [b0]; decide), b1, b2, b3] at this
    rw [show be [UInt8.ofNat (cnt / 16777216), UInt8.ofNat (cnt / 65536), UInt8.ofNat (cnt / 256), UInt8.ofNat cnt] = cnt from hbe] at this
    exact this
  cases hh with
  | false =>
    rw [if_neg (by decide)] at h
    obtain ⟨r, hr, hrl, hx⟩ := ext_write (d := ⟨hs, p, v, false, cnt, ms, cn, cred, key, exts⟩) h7 n2 h
    obtain ⟨m1, m2, m3, m4⟩ := n1 rfl
    subst m1 m2 m3 m4
    subst hr
    refine ⟨.inl ?_, by simp [h1, kb]; omega⟩
    rw [List.append_assoc, List.cons_append, cut]
    unfold heldS
    rw [if_neg (by rw [b3]; decide), hx fl _ rfl b4]
    rfl
  | true =>
    rw [if_pos rfl] at h
    by_cases hc : cred.length < 1 ∨ 128 < cred.length
    · rw [if_pos hc] at h; exact absurd (congrArg Prod.snd h) (show ¬ (60 : Nat) = 0 by decide)
    rw [if_neg hc] at h
    have hkl := enc_len2 valid key
    obtain ⟨E, hE⟩ : ∃ E, encS valid key = E := ⟨_, rfl⟩
    rw [hE] at h hkl
    obtain ⟨c, e⟩ := E
    simp only at h hkl
    by_cases he : e = 0
    · subst he
      rw [if_neg (by simp)] at h
      obtain ⟨r, hr, hrl, hx⟩ := ext_write (d := ⟨hs, p, v, true, cnt, ms, cn, cred, key, exts⟩) h7 n2 h
      subst hr
      refine ⟨?_, by simp [h1, h2, kb, lenB]; omega⟩
      have eb : hs ++ fl :: kb cnt ++ ms ++ lenB cred.length ++ cred ++ c ++ r = hs ++ fl :: (kb cnt ++ (ms ++ UInt8.ofNat (cred.length / 256) :: UInt8.ofNat cred.length :: (cred ++ (c ++ r)))) := by
        simp only [List.append_assoc, List.cons_append]
        rfl
      rw [eb, cut, heldS_cut valid fl _ h2 _ _ _ b3 cred.length (lenB_n _ (by omega))]
      have q1 : (cred ++ (c ++ r)).drop cred.length = c ++ r := by simp
      have q2 : (cred ++ (c ++ r)).take cred.length = cred := by simp
      rw [q1, q2, if_neg (by simp only [List.length_append]; omega)]
      by_cases hl : (c ++ r).length ≤ 8192
      · have hd := dec_enc h6 hE r hl
        rw [hd]
        simp only
        rw [if_neg (by simp), Option.getD_some, hx fl _ rfl b4]
        exact .inl rfl
      · have hd : decS valid (c ++ r) = (.zero, none, 3) := by unfold decS; rw [if_pos (by omega)]
        rw [hd]
        simp only
        rw [if_pos (by decide)]
        exact .inr ⟨_, rfl⟩
    · rw [if_pos he] at h
      exact absurd (congrArg Prod.snd h) he
end Go.Proofs.YtijcpdgfbboamaaDoor
open Go Go.VS
namespace Go.Proofs.YtijcpdgfbboamaaDoor
set_option linter.unusedVariables false
set_option linter.unusedSimpArgs false
set_option maxRecDepth 20000
set_option maxHeartbeats 4000000
theorem headB_self (x : CI) : headB x x = true := by simp [headB]
theorem sameB_refl : ∀ (d : Nat) (x : CI), sameB d x x = true
  | 0, x => headB_self x
  | d + 1, x => by
    simp only [sameB, headB_self, Bool.true_and]
    have : ∀ l : List CI, zipB (sameB d) l l = true := fun l => by
      induction l with
      | nil => rfl
      | cons y l ih => simp only [zipB, sameB_refl d y, ih, Bool.true_and]
    exact this _
theorem extX_same (size : UInt8) (p : CI) : sameB 8 (canX (extX size (madeS 3 p))) (extX size (madeS 3 p)) = true := by
  unfold canX
  split
  · unfold extX
    split
    · rw [canS_grp _ (.inr rfl)]
      have h1 : headB (.mk 6 0 true [] false [canS textX, canS (madeS 3 p)]) (.mk 6 0 true [] false [textX, madeS 3 p]) = true := rfl
      have ht : sameB 7 (canS textX) textX = true := by decide
      show (headB _ _ && zipB (sameB 7) [canS textX, canS (madeS 3 p)] [textX, madeS 3 p]) = true
      simp only [zipB, ht, made_same 3 p 7, Bool.and_true]
      exact h1
    · exact made_same 3 p 8
  · exact sameB_refl 8 _
def k32_VsDBack2 : List Nat := [0,1,2,3,4]
attribute [go_sem] k32_VsDBack2
theorem f32_two (hs ms : List UInt8) (h1 : hs.length = 32) (h2 : ms.length = 16) (p v h : Bool) (cnt : Nat) (cn cn' : Bool) (cred : List UInt8) (k k' x x' : CI) (w1 : Wide 8 k) (w2 : Wide 8 k') (w3 : Wide 8 x) (w4 : Wide 8 x') (s1 : sameB 8 k k' = true) (s2 : sameB 8 x x' = true) :
    CallsP Tryd.prog 32 [(AD.mk hs p v h cnt ms cn cred k x).av, (AD.mk hs p v h cnt ms cn' cred k' x').av] (.bool true) := by
  have c27 := f27_all 8 k k' w1 w2
  have c27' := f27_all 8 x x' w3 w4
  rw [s1] at c27
  rw [s2] at c27'
  obtain ⟨kk, kn, kbn, kb, kkn, kks⟩ := k
  obtain ⟨xk, xn, xbn, xb, xkn, xks⟩ := x
  obtain ⟨lk', ln, lbn, lb, lkn, lks⟩ := k'
  obtain ⟨yk, yn, ybn, yb, ykn, yks⟩ := x'
  have hl2 : (hs.map u8).length = 32 := by rw [List.length_map]; exact h1
  have ml2 : (ms.map u8).length = 16 := by rw [List.length_map]; exact h2
  have ht1 := ap_take hl2
  have hd1 := ap_drop hl2
  have hg1 := ap_get hl2
  have ht2 := ap_take ml2
  have hd2 := ap_drop ml2
  have hg2 := ap_get ml2
  have ha1 : ∀ l, List.take 32 (hs.map u8 ++ l) = hs.map u8 := fun l => by have := ht1 l 0; simpa using this
  have ha2 : ∀ l, List.take 16 (ms.map u8 ++ l) = ms.map u8 := fun l => by have := ht2 l 0; simpa using this
  rw [av_mk', av_mk'] at c27 c27'
  refine CallsP.intro Tryd.func32 rfl (by show 2 ≤ 68; decide) ?_
  rintro X hX
  have hn : X.n = 68 := hX
  unfold Tryd.f32
  dsimp only
  rw [entry2]
  repeat' first
   | with_reducible refine Rl.go (by constructor <;> decide) ?_
   | ((with_reducible first | refine hK _ ?_ | refine hK.1 ?_ | refine hK.2 ?_); clear hK K)
   | ((with_reducible refine condS hK (fun hg => ?_) fun hg => ?_) <;> clear hK K <;> (try simp only [hgW] at hg) <;> try (exfalso; omega))
   | ((first | ((with_reducible first | refine Rk.go k32_VsDBack2 (by constructor) ?_); intro K hK) | with_reducible refine Rr.go [] (by constructor) ?_ | (with_reducible refine guardP_split (fun hg => ?_) fun hg => ?_) <;> (try simp only [hg]) <;> (try simp only [hgW] at hg) | refine Rc.go c27 (by constructor) ?_ | refine Rc.go (c27') (by constructor) ?_) <;> simp -implicitDefEqProofs only [AD.av, AD.cells, cs_mk, List.append_assoc, h1, h2, hl2, ml2, ha1, ha2, ht1, hd1, hg1, ht2, hd2, hg2, ints_u8, ba43, ba46, Int.cast_ofNat_Int, hn, go_sem, simprocAttr] <;> try (simp (disch := omega) only [wrW]; try simp -implicitDefEqProofs only [AD.av, AD.cells, cs_mk, List.append_assoc, h1, h2, hl2, ml2, ha1, ha2, ht1, hd1, hg1, ht2, hd2, hg2, ints_u8, ba43, ba46, Int.cast_ofNat_Int, hn, go_sem, simprocAttr]))
   | with_reducible refine And.intro (by first | omega | (simp only [hgW]; omega)) ?_
   | (exfalso; omega)
theorem writeS_err (valid : List UInt8 → Bool) (d : AD) : (writeS valid d).2 ≠ 0 → (writeS valid d).1 = [] := by
  have e : ∀ o, (extW valid d o).2 ≠ 0 → (extW valid d o).1 = [] := fun o => by
    unfold extW
    split
    · split
      · exact fun _ => rfl
      split
      · exact fun _ => rfl
      · exact fun h => absurd rfl h
    · exact fun h => absurd rfl h
  unfold writeS
  split
  · split
    · exact fun _ => rfl
    split
    · exact fun _ => rfl
    · exact e _
  · exact e _
end Go.Proofs.YtijcpdgfbboamaaDoor
open Go Go.VS
namespace Go.Proofs.YtijcpdgfbboamaaDoor
set_option linter.unusedVariables false
set_option linter.unusedSimpArgs false
set_option maxRecDepth 20000
set_option maxHeartbeats 4000000
def k15_VsDBack3 : List Nat := [0,1,2,3,4,5,6,8,9,10,11,12,13,14,16,24,33,42,52]
attribute [go_sem] k15_VsDBack3
theorem tail15 (X : Ent) (hX : X.n = 74) (hs ms : List UInt8) (p v h : Bool) (cnt : Nat) (cn : Bool) (cred : List UInt8) (kk kn : Nat) (kbn kkn : Bool) (kb' : List UInt8) (kks : List CI)
    (xk xn : Nat) (xbn xkn : Bool) (xb : List UInt8) (xks : List CI) (hw : (AD.mk hs p v h cnt ms cn cred (.mk kk kn kbn kb' kkn kks) (.mk xk xn xbn xb xkn xks)).Wr) (hno : (AD.mk hs p v h cnt ms cn cred (.mk kk kn kbn kb' kkn kks) (.mk xk xn xbn xb xkn xks)).Norm)
    (w1 : Wide 8 (.mk kk kn kbn kb' kkn kks)) (w2 : Wide 8 (.mk xk xn xbn xb xkn xks)) (s1 : h = true → sameB 8 (canS (.mk kk kn kbn kb' kkn kks)) (.mk kk kn kbn kb' kkn kks) = true) (s2 : sameB 8 (canX (.mk xk xn xbn xb xkn xks)) (.mk xk xn xbn xb xkn xks) = true) :
    AWP Tryd.prog X (tlD (tlD (tlD (tlD (tlD ((Tryd.f15.body).getD .skip)))))) (retS Tryd.prog Tryd.f15.results.toList (.bool true))
      (St.mk (lk [(4, .ptr 4 0), (8, .bool false)]) (lkB [(4, hs.map u8 ++ .bool p :: .bool v :: .bool h :: .int .u32 (cnt : Int) :: (ms.map u8 ++ [.sl none cn 1 (cred.map u8), .int .u8 (kk : Int), .int .u64 (kn : Int), .sl none kbn 1 (kb'.map u8), .sl none kkn 4 (kks.map CI.av), .int .u8 (xk : Int), .int .u64 (xn : Int), .sl none xbn 1 (xb.map u8), .sl none xkn 4 (xks.map CI.av)]))]) (hasS []) (hasS []) (hasN []) (lkR [])) := by
  have hn : X.n = 74 := hX
  have c30 := f30_ok validI _ hw
  have hback := fun b => @auth_write Go.Lib.validD (AD.mk hs p v h cnt ms cn cred (.mk kk kn kbn kb' kkn kks) (.mk xk xn xbn xb xkn xks)) b hw hno
  have herr := writeS_err Go.Lib.validD (AD.mk hs p v h cnt ms cn cred (.mk kk kn kbn kb' kkn kks) (.mk xk xn xbn xb xkn xks))
  have h1 := hw.hs
  have h2 := hw.ms
  simp only at h1 h2
  have hl2 : (hs.map u8).length = 32 := by rw [List.length_map]; exact h1
  have ml2 : (ms.map u8).length = 16 := by rw [List.length_map]; exact h2
  have ht1 := ap_take hl2
  have hd1 := ap_drop hl2
  have ht2 := ap_take ml2
  have hd2 := ap_drop ml2
  generalize hW : writeS Go.Lib.validD (AD.mk hs p v h cnt ms cn cred (.mk kk kn kbn kb' kkn kks) (.mk xk xn xbn xb xkn xks)) = W at *
  obtain ⟨b, e⟩ := W
  simp only at herr
  unfold Tryd.f15
  dsimp only [tlD, Option.getD_some]
  by_cases he : e = 0
  · subst he
    obtain ⟨ha, hbl⟩ := hback b rfl
    have c24 := f24_ok valid_ok false b (fun h => by cases h) (by omega)
    have hok := authS_ok Go.Lib.validD b
    have hab := fun d => @auth_back Go.Lib.validD b d (by omega)
    rcases ha with ha | ⟨D, ha⟩
    · rw [ha] at c24 hok
      obtain ⟨hb1, hb2⟩ := hab _ ha
      have c30' := f30_ok validI _ hb2
      rw [hb1] at c30'
      have c32 : CallsP Tryd.prog 32 [(canD (AD.mk hs p v h cnt ms cn cred (.mk kk kn kbn kb' kkn kks) (.mk xk xn xbn xb xkn xks))).av, (AD.mk hs p v h cnt ms cn cred (.mk kk kn kbn kb' kkn kks) (.mk xk xn xbn xb xkn xks)).av] (.bool true) := by
        refine f32_two hs ms h1 h2 p v h cnt (!h) cn cred _ _ _ _ hok.key w1 hok.exts w2 ?_ s2
        show sameB 8 (if h = true then canS _ else _) _ = true
        cases h with
        | true => exact s1 rfl
        | false => exact sameB_refl 8 _
      unfold canD at c24 c30' c32
      simp only at c24 c30' c32
      generalize (if h = true then canS (.mk kk kn kbn kb' kkn kks) else (.mk kk kn kbn kb' kkn kks)) = K at *
      generalize canX (.mk xk xn xbn xb xkn xks) = E at *
      obtain ⟨lk', ln, lbn, lb, lkn, lks⟩ := K
      obtain ⟨yk, yn, ybn, yb, ykn, yks⟩ := E
      simp only [AD.av, AD.cells, cs_mk, outAV, List.cons_append, List.nil_append] at c24 c30 c30' c32
      repeat' first
       | with_reducible refine Rl.go (by constructor <;> decide) ?_
       | ((with_reducible first | refine hK _ ?_ | refine hK.1 ?_ | refine hK.2 ?_); clear hK K)
       | ((with_reducible refine condS hK (fun hg => ?_) fun hg => ?_) <;> clear hK K <;> (try simp only [hgW] at hg) <;> try (exfalso; omega))
       | ((with_reducible first | refine callE_PE c30 ?_ | refine callP_PE c30 ?_); simp -implicitDefEqProofs only [eqOk_true, List.append_assoc, h1, h2, hl2, ml2, ht1, hd1, ht2, hd2, Int.cast_ofNat_Int, hn, go_sem, simprocAttr]; (skip; try (simp (disch := omega) only [wrW]; try simp -implicitDefEqProofs only [List.append_assoc, h1, h2, hl2, ml2, ht1, hd1, ht2, hd2, Int.cast_ofNat_Int, hn, go_sem, simprocAttr])); fail_if_success (with_reducible refine eqOk_mk ?_))
       | ((with_reducible first | refine callE_PE c24 ?_ | refine callP_PE c24 ?_); simp -implicitDefEqProofs only [eqOk_true, List.append_assoc, h1, h2, hl2, ml2, ht1, hd1, ht2, hd2, Int.cast_ofNat_Int, hn, go_sem, simprocAttr]; (skip; try (simp (disch := omega) only [wrW]; try simp -implicitDefEqProofs only [List.append_assoc, h1, h2, hl2, ml2, ht1, hd1, ht2, hd2, Int.cast_ofNat_Int, hn, go_sem, simprocAttr])); fail_if_success (with_reducible refine eqOk_mk ?_))
       | ((with_reducible first | refine callE_PE (c30') ?_ | refine callP_PE (c30') ?_); simp -implicitDefEqProofs only [eqOk_true, List.append_assoc, h1, h2, hl2, ml2, ht1, hd1, ht2, hd2, Int.cast_ofNat_Int, hn, go_sem, simprocAttr]; (skip; try (simp (disch := omega) only [wrW]; try simp -implicitDefEqProofs only [List.append_assoc, h1, h2, hl2, ml2, ht1, hd1, ht2, hd2, Int.cast_ofNat_Int, hn, go_sem, simprocAttr])); fail_if_success (with_reducible refine eqOk_mk ?_))
       | ((with_reducible first | refine callE_PE c32 ?_ | refine callP_PE c32 ?_); simp -implicitDefEqProofs only [eqOk_true, List.append_assoc, h1, h2, hl2, ml2, ht1, hd1, ht2, hd2, Int.cast_ofNat_Int, hn, go_sem, simprocAttr]; (skip; try (simp (disch := omega) only [wrW]; try simp -implicitDefEqProofs only [List.append_assoc, h1, h2, hl2, ml2, ht1, hd1, ht2, hd2, Int.cast_ofNat_Int, hn, go_sem, simprocAttr])); fail_if_success (with_reducible refine eqOk_mk ?_))
       | ((first | ((with_reducible first | refine Rk.go k15_VsDBack3 (by constructor) ?_); intro K hK) | with_reducible refine Rr.go [] (by constructor) ?_ | (with_reducible refine guardP_split (fun hg => ?_) fun hg => ?_) <;> (try simp only [hg]) <;> (try simp only [hgW] at hg)) <;> simp -implicitDefEqProofs only [List.append_assoc, h1, h2, hl2, ml2, ht1, hd1, ht2, hd2, Int.cast_ofNat_Int, hn, go_sem, simprocAttr] <;> try (simp (disch := omega) only [wrW]; try simp -implicitDefEqProofs only [List.append_assoc, h1, h2, hl2, ml2, ht1, hd1, ht2, hd2, Int.cast_ofNat_Int, hn, go_sem, simprocAttr]))
       | with_reducible refine And.intro (by first | omega | (simp only [hgW]; omega)) ?_
       | (exfalso; omega)
    · rw [ha] at c24 hok
      obtain ⟨g1, g2, _, _⟩ := hok
      obtain ⟨hs', p', v', h', cnt', ms', cn', cred', key', exts'⟩ := D
      simp only at g1 g2
      obtain ⟨lk', ln, lbn, lb, lkn, lks⟩ := key'
      obtain ⟨yk, yn, ybn, yb, ykn, yks⟩ := exts'
      have hl3 : (hs'.map u8).length = 32 := by rw [List.length_map]; exact g1
      have ml3 : (ms'.map u8).length = 16 := by rw [List.length_map]; exact g2
      have ht3 := ap_take hl3
      have hd3 := ap_drop hl3
      have ht4 := ap_take ml3
      have hd4 := ap_drop ml3
      simp only [AD.av, AD.cells, cs_mk, outAV, List.cons_append, List.nil_append] at c24 c30
      repeat' first
       | with_reducible refine Rl.go (by constructor <;> decide) ?_
       | ((with_reducible first | refine hK _ ?_ | refine hK.1 ?_ | refine hK.2 ?_); clear hK K)
       | ((with_reducible refine condS hK (fun hg => ?_) fun hg => ?_) <;> clear hK K <;> (try simp only [hgW] at hg) <;> try (exfalso; omega))
       | ((with_reducible first | refine callE_PE c30 ?_ | refine callP_PE c30 ?_); simp -implicitDefEqProofs only [eqOk_true, List.append_assoc, h1, h2, hl2, ml2, ht1, hd1, ht2, hd2, g1, g2, hl3, ml3, ht3, hd3, ht4, hd4, Int.cast_ofNat_Int, hn, go_sem, simprocAttr]; (skip; try (simp (disch := omega) only [wrW]; try simp -implicitDefEqProofs only [List.append_assoc, h1, h2, hl2, ml2, ht1, hd1, ht2, hd2, g1, g2, hl3, ml3, ht3, hd3, ht4, hd4, Int.cast_ofNat_Int, hn, go_sem, simprocAttr])); fail_if_success (with_reducible refine eqOk_mk ?_))
       | ((with_reducible first | refine callE_PE c24 ?_ | refine callP_PE c24 ?_); simp -implicitDefEqProofs only [eqOk_true, List.append_assoc, h1, h2, hl2, ml2, ht1, hd1, ht2, hd2, g1, g2, hl3, ml3, ht3, hd3, ht4, hd4, Int.cast_ofNat_Int, hn, go_sem, simprocAttr]; (skip; try (simp (disch := omega) only [wrW]; try simp -implicitDefEqProofs only [List.append_assoc, h1, h2, hl2, ml2, ht1, hd1, ht2, hd2, g1, g2, hl3, ml3, ht3, hd3, ht4, hd4, Int.cast_ofNat_Int, hn, go_sem, simprocAttr])); fail_if_success (with_reducible refine eqOk_mk ?_))
       | ((first | ((with_reducible first | refine Rk.go k15_VsDBack3 (by constructor) ?_); intro K hK) | with_reducible refine Rr.go [] (by constructor) ?_ | (with_reducible refine guardP_split (fun hg => ?_) fun hg => ?_) <;> (try simp only [hg]) <;> (try simp only [hgW] at hg)) <;> simp -implicitDefEqProofs only [List.append_assoc, h1, h2, hl2, ml2, ht1, hd1, ht2, hd2, g1, g2, hl3, ml3, ht3, hd3, ht4, hd4, Int.cast_ofNat_Int, hn, go_sem, simprocAttr] <;> try (simp (disch := omega) only [wrW]; try simp -implicitDefEqProofs only [List.append_assoc, h1, h2, hl2, ml2, ht1, hd1, ht2, hd2, g1, g2, hl3, ml3, ht3, hd3, ht4, hd4, Int.cast_ofNat_Int, hn, go_sem, simprocAttr]))
       | with_reducible refine And.intro (by first | omega | (simp only [hgW]; omega)) ?_
       | (exfalso; omega)
  · have hb := herr he
    subst hb
    simp only [AD.av, AD.cells, cs_mk, outAV, List.cons_append, List.nil_append] at c30
    repeat' first
     | with_reducible refine Rl.go (by constructor <;> decide) ?_
     | ((with_reducible first | refine hK _ ?_ | refine hK.1 ?_ | refine hK.2 ?_); clear hK K)
     | ((with_reducible refine condS hK (fun hg => ?_) fun hg => ?_) <;> clear hK K <;> (try simp only [hgW] at hg) <;> try (exfalso; omega))
     | ((with_reducible first | refine callE_PE c30 ?_ | refine callP_PE c30 ?_); simp -implicitDefEqProofs only [eqOk_true, he, List.append_assoc, h1, h2, hl2, ml2, ht1, hd1, ht2, hd2, Int.cast_ofNat_Int, hn, go_sem, simprocAttr]; (skip; try (simp (disch := omega) only [wrW]; try simp -implicitDefEqProofs only [he, List.append_assoc, h1, h2, hl2, ml2, ht1, hd1, ht2, hd2, Int.cast_ofNat_Int, hn, go_sem, simprocAttr])); fail_if_success (with_reducible refine eqOk_mk ?_))
     | ((first | ((with_reducible first | refine Rk.go k15_VsDBack3 (by constructor) ?_); intro K hK) | with_reducible refine Rr.go [] (by constructor) ?_ | (with_reducible refine guardP_split (fun hg => ?_) fun hg => ?_) <;> (try simp only [hg]) <;> (try simp only [hgW] at hg)) <;> simp -implicitDefEqProofs only [he, List.append_assoc, h1, h2, hl2, ml2, ht1, hd1, ht2, hd2, Int.cast_ofNat_Int, hn, go_sem, simprocAttr] <;> try (simp (disch := omega) only [wrW]; try simp -implicitDefEqProofs only [he, List.append_assoc, h1, h2, hl2, ml2, ht1, hd1, ht2, hd2, Int.cast_ofNat_Int, hn, go_sem, simprocAttr]))
     | with_reducible refine And.intro (by first | omega | (simp only [hgW]; omega)) ?_
     | (exfalso; omega)
theorem f15_ok (hv : ValidOk Go.Lib.validD) (hi : ValidI Go.Lib.validD) (d : AD) (hd : d.In) (key exts : CI) (hk : PlanD 5 key) (he : PlanD 4 exts) (size : UInt8) :
    CallsP Tryd.prog 15 [d.av, key.av, exts.av, .int .u8 (size.toNat : Int)] (.bool true) := by
  have c22 := f22_ok hv
  have c29 := f29_ok d hd key exts hk he size
  have hw := made15_wr hd key exts size hk he
  obtain ⟨h1, h2, h3, h4, h5⟩ := hd
  have w1 : Wide 8 (made15 d key exts size).key := made_wide 4 key 7 (by decide)
  have w2 : Wide 8 (made15 d key exts size).exts := by
    show Wide 8 (extX size (madeS 3 exts))
    unfold extX
    split
    · refine ⟨by show 2 ≤ 10000; decide, fun y hy => ?_⟩
      simp only [CI.ks, List.mem_cons, List.not_mem_nil, or_false] at hy
      rcases hy with rfl | rfl
      · exact Wide.leaf _ rfl
      · exact made_wide 3 exts 6 (by decide)
    · exact made_wide 3 exts 7 (by decide)
  have s1 : sameB 8 (canS (made15 d key exts size).key) (made15 d key exts size).key = true := made_same 4 key 8
  have s2 : sameB 8 (canX (made15 d key exts size).exts) (made15 d key exts size).exts = true := extX_same size exts
  generalize made15 d key exts size = D at *
  obtain ⟨hs, p, v, h, cnt, ms, cn, cred, dkey, dexts⟩ := d
  simp only at h1 h2 h3 h4 h5
  obtain ⟨dk, dn, dbn, db, dkn, dks⟩ := dkey
  obtain ⟨ek, en, ebn, eb, ekn, eks⟩ := dexts
  obtain ⟨pk, pn, pbn, pb, pkn, pks⟩ := key
  obtain ⟨qk, qn, qbn, qb, qkn, qks⟩ := exts
  obtain ⟨hs', p', v', h', cnt', ms', cn', cred', key', exts'⟩ := D
  obtain ⟨g1, g2, g3, g4, g5, g6, g7⟩ := hw
  simp only at g1 g2 g3 g4 g5 g6 g7 w1 w2 s1 s2
  obtain ⟨kk, kn, kbn, kb', kkn, kks⟩ := key'
  obtain ⟨xk, xn, xbn, xb, xkn, xks⟩ := exts'
  have hl2 : (hs.map u8).length = 32 := by rw [List.length_map]; exact h1
  have ml2 : (ms.map u8).length = 16 := by rw [List.length_map]; exact h2
  have hl3 : (hs'.map u8).length = 32 := by rw [List.length_map]; exact g1
  have ml3 : (ms'.map u8).length = 16 := by rw [List.length_map]; exact g2
  have ht1 := ap_take hl2
  have hd1 := ap_drop hl2
  have hg1 := ap_get hl2
  have ht2 := ap_take ml2
  have hd2 := ap_drop ml2
  have hg2 := ap_get ml2
  have ht3 := ap_take hl3
  have hd3 := ap_drop hl3
  have hg3 := ap_get hl3
  have ht4 := ap_take ml3
  have hd4 := ap_drop ml3
  have hg4 := ap_get ml3
  simp only [AD.av, AD.cells, cs_mk, av_mk', List.cons_append, List.nil_append] at c29
  have hx2 : xk ≠ 6 → ¬ (xk : Int) = 6 := fun h => by omega
  cases h' with
  | true =>
    by_cases hx : xk = 6
    · subst hx
      have T := fun X hX => tail15 X hX hs' ms' p' v' true cnt' cn' cred' kk kn kbn kkn kb' kks 6 xn xbn xkn xb xks ⟨g1, g2, g3, g4, g5, g6, g7⟩ ⟨(fun h => by cases h), fun h => absurd rfl h⟩ w1 w2 (fun _ => s1) s2
      refine CallsP.intro Tryd.func15 rfl (by show 4 ≤ 74; decide) ?_
      rintro X hX
      have hn : X.n = 74 := hX
      unfold Tryd.f15
      dsimp only
      rw [entry4]
      repeat' first
       | (with_reducible refine markDQ 8 ?_)
       | with_reducible refine Rl.go (by constructor <;> decide) ?_
       | ((with_reducible first | refine hK _ ?_ | refine hK.1 ?_ | refine hK.2 ?_); clear hK K)
       | ((with_reducible refine condS hK (fun hg => ?_) fun hg => ?_) <;> clear hK K <;> (try simp only [hgW] at hg) <;> try (exfalso; omega))
       | ((with_reducible first | refine callE_PE c29 ?_ | refine callP_PE c29 ?_); simp -implicitDefEqProofs only [eqOk_true, AD.av, AD.cells, cs_mk, cs_zero, av_mk', List.append_assoc, List.cons_append, List.nil_append, h1, h2, hl2, ml2, g1, g2, hl3, ml3, ht1, hd1, hg1, ht2, hd2, hg2, ht3, hd3, hg3, ht4, hd4, hg4, Int.cast_ofNat_Int, hn, go_sem, simprocAttr]; (skip; try (simp (disch := omega) only [wrW]; try simp -implicitDefEqProofs only [AD.av, AD.cells, cs_mk, cs_zero, av_mk', List.append_assoc, List.cons_append, List.nil_append, h1, h2, hl2, ml2, g1, g2, hl3, ml3, ht1, hd1, hg1, ht2, hd2, hg2, ht3, hd3, hg3, ht4, hd4, hg4, Int.cast_ofNat_Int, hn, go_sem, simprocAttr])); fail_if_success (with_reducible refine eqOk_mk ?_))
       | ((first | ((with_reducible first | refine Rk.go k15_VsDBack3 (by constructor) ?_); intro K hK) | with_reducible refine Rr.go [] (by constructor) ?_ | (with_reducible refine guardP_split (fun hg => ?_) fun hg => ?_) <;> (try simp only [hg]) <;> (try simp only [hgW] at hg) | refine Rc.go c22 (by constructor) ?_) <;> simp -implicitDefEqProofs only [AD.av, AD.cells, cs_mk, cs_zero, av_mk', List.append_assoc, List.cons_append, List.nil_append, h1, h2, hl2, ml2, g1, g2, hl3, ml3, ht1, hd1, hg1, ht2, hd2, hg2, ht3, hd3, hg3, ht4, hd4, hg4, Int.cast_ofNat_Int, hn, go_sem, simprocAttr] <;> try (simp (disch := omega) only [wrW]; try simp -implicitDefEqProofs only [AD.av, AD.cells, cs_mk, cs_zero, av_mk', List.append_assoc, List.cons_append, List.nil_append, h1, h2, hl2, ml2, g1, g2, hl3, ml3, ht1, hd1, hg1, ht2, hd2, hg2, ht3, hd3, hg3, ht4, hd4, hg4, Int.cast_ofNat_Int, hn, go_sem, simprocAttr]))
       | with_reducible refine And.intro (by first | omega | (simp only [hgW]; omega)) ?_
       | (exfalso; omega)
      unfold MarkD
      refine AWP.slim [4, 8] [5, 6] ?_
      simp -implicitDefEqProofs only [Int.cast_ofNat_Int, hn, go_sem, simprocAttr]
      exact T X hX
    · have hx3 := hx2 hx
      have T := fun X hX => tail15 X hX hs' ms' p' v' true cnt' cn' cred' kk kn kbn kkn kb' kks 0 0 true true [] [] ⟨g1, g2, g3, g4, g5, g6, fit_zero⟩ ⟨(fun h => by cases h), fun _ => rfl⟩ w1 (Wide.leaf _ rfl) (fun _ => s1) (sameB_refl 8 _)
      refine CallsP.intro Tryd.func15 rfl (by show 4 ≤ 74; decide) ?_
      rintro X hX
      have hn : X.n = 74 := hX
      unfold Tryd.f15
      dsimp only
      rw [entry4]
      repeat' first
       | (with_reducible refine markDQ 8 ?_)
       | with_reducible refine Rl.go (by constructor <;> decide) ?_
       | ((with_reducible first | refine hK _ ?_ | refine hK.1 ?_ | refine hK.2 ?_); clear hK K)
       | ((with_reducible refine condS hK (fun hg => ?_) fun hg => ?_) <;> clear hK K <;> (try simp only [hgW] at hg) <;> try (exfalso; omega))
       | ((with_reducible first | refine callE_PE c29 ?_ | refine callP_PE c29 ?_); simp -implicitDefEqProofs only [eqOk_true, hx3, AD.av, AD.cells, cs_mk, cs_zero, av_mk', List.append_assoc, List.cons_append, List.nil_append, h1, h2, hl2, ml2, g1, g2, hl3, ml3, ht1, hd1, hg1, ht2, hd2, hg2, ht3, hd3, hg3, ht4, hd4, hg4, Int.cast_ofNat_Int, hn, go_sem, simprocAttr]; (skip; try (simp (disch := omega) only [wrW]; try simp -implicitDefEqProofs only [hx3, AD.av, AD.cells, cs_mk, cs_zero, av_mk', List.append_assoc, List.cons_append, List.nil_append, h1, h2, hl2, ml2, g1, g2, hl3, ml3, ht1, hd1, hg1, ht2, hd2, hg2, ht3, hd3, hg3, ht4, hd4, hg4, Int.cast_ofNat_Int, hn, go_sem, simprocAttr])); fail_if_success (with_reducible refine eqOk_mk ?_))
       | ((first | ((with_reducible first | refine Rk.go k15_VsDBack3 (by constructor) ?_); intro K hK) | with_reducible refine Rr.go [] (by constructor) ?_ | (with_reducible refine guardP_split (fun hg => ?_) fun hg => ?_) <;> (try simp only [hg]) <;> (try simp only [hgW] at hg) | refine Rc.go c22 (by constructor) ?_) <;> simp -implicitDefEqProofs only [hx3, AD.av, AD.cells, cs_mk, cs_zero, av_mk', List.append_assoc, List.cons_append, List.nil_append, h1, h2, hl2, ml2, g1, g2, hl3, ml3, ht1, hd1, hg1, ht2, hd2, hg2, ht3, hd3, hg3, ht4, hd4, hg4, Int.cast_ofNat_Int, hn, go_sem, simprocAttr] <;> try (simp (disch := omega) only [wrW]; try simp -implicitDefEqProofs only [hx3, AD.av, AD.cells, cs_mk, cs_zero, av_mk', List.append_assoc, List.cons_append, List.nil_append, h1, h2, hl2, ml2, g1, g2, hl3, ml3, ht1, hd1, hg1, ht2, hd2, hg2, ht3, hd3, hg3, ht4, hd4, hg4, Int.cast_ofNat_Int, hn, go_sem, simprocAttr]))
       | with_reducible refine And.intro (by first | omega | (simp only [hgW]; omega)) ?_
       | (exfalso; omega)
      unfold MarkD
      refine AWP.slim [4, 8] [5, 6] ?_
      simp -implicitDefEqProofs only [Int.cast_ofNat_Int, hn, go_sem, simprocAttr]
      exact T X hX
  | false =>
    by_cases hx : xk = 6
    · subst hx
      have T := fun X hX => tail15 X hX hs' z16 p' v' false cnt' true [] 0 0 true true [] [] 6 xn xbn xkn xb xks ⟨g1, rfl, g3, fun _ => rfl, by show 0 ≤ 100000000; decide, fit_zero, g7⟩ ⟨fun _ => ⟨rfl, rfl, rfl, rfl⟩, fun h => absurd rfl h⟩ (Wide.leaf _ rfl) w2 (fun h => by cases h) s2
      refine CallsP.intro Tryd.func15 rfl (by show 4 ≤ 74; decide) ?_
      rintro X hX
      have hn : X.n = 74 := hX
      unfold Tryd.f15
      dsimp only
      rw [entry4]
      repeat' first
       | (with_reducible refine markDQ 8 ?_)
       | with_reducible refine Rl.go (by constructor <;> decide) ?_
       | ((with_reducible first | refine hK _ ?_ | refine hK.1 ?_ | refine hK.2 ?_); clear hK K)
       | ((with_reducible refine condS hK (fun hg => ?_) fun hg => ?_) <;> clear hK K <;> (try simp only [hgW] at hg) <;> try (exfalso; omega))
       | ((with_reducible first | refine callE_PE c29 ?_ | refine callP_PE c29 ?_); simp -implicitDefEqProofs only [eqOk_true, z16_u8, AD.av, AD.cells, cs_mk, cs_zero, av_mk', List.append_assoc, List.cons_append, List.nil_append, h1, h2, hl2, ml2, g1, g2, hl3, ml3, ht1, hd1, hg1, ht2, hd2, hg2, ht3, hd3, hg3, ht4, hd4, hg4, Int.cast_ofNat_Int, hn, go_sem, simprocAttr]; (skip; try (simp (disch := omega) only [wrW]; try simp -implicitDefEqProofs only [z16_u8, AD.av, AD.cells, cs_mk, cs_zero, av_mk', List.append_assoc, List.cons_append, List.nil_append, h1, h2, hl2, ml2, g1, g2, hl3, ml3, ht1, hd1, hg1, ht2, hd2, hg2, ht3, hd3, hg3, ht4, hd4, hg4, Int.cast_ofNat_Int, hn, go_sem, simprocAttr])); fail_if_success (with_reducible refine eqOk_mk ?_))
       | ((first | ((with_reducible first | refine Rk.go k15_VsDBack3 (by constructor) ?_); intro K hK) | with_reducible refine Rr.go [] (by constructor) ?_ | (with_reducible refine guardP_split (fun hg => ?_) fun hg => ?_) <;> (try simp only [hg]) <;> (try simp only [hgW] at hg) | refine Rc.go c22 (by constructor) ?_) <;> simp -implicitDefEqProofs only [z16_u8, AD.av, AD.cells, cs_mk, cs_zero, av_mk', List.append_assoc, List.cons_append, List.nil_append, h1, h2, hl2, ml2, g1, g2, hl3, ml3, ht1, hd1, hg1, ht2, hd2, hg2, ht3, hd3, hg3, ht4, hd4, hg4, Int.cast_ofNat_Int, hn, go_sem, simprocAttr] <;> try (simp (disch := omega) only [wrW]; try simp -implicitDefEqProofs only [z16_u8, AD.av, AD.cells, cs_mk, cs_zero, av_mk', List.append_assoc, List.cons_append, List.nil_append, h1, h2, hl2, ml2, g1, g2, hl3, ml3, ht1, hd1, hg1, ht2, hd2, hg2, ht3, hd3, hg3, ht4, hd4, hg4, Int.cast_ofNat_Int, hn, go_sem, simprocAttr]))
       | with_reducible refine And.intro (by first | omega | (simp only [hgW]; omega)) ?_
       | (exfalso; omega)
      unfold MarkD
      refine AWP.slim [4, 8] [5, 6] ?_
      simp -implicitDefEqProofs only [Int.cast_ofNat_Int, hn, go_sem, simprocAttr]
      exact T X hX
    · have hx3 := hx2 hx
      have T := fun X hX => tail15 X hX hs' z16 p' v' false cnt' true [] 0 0 true true [] [] 0 0 true true [] [] ⟨g1, rfl, g3, fun _ => rfl, by show 0 ≤ 100000000; decide, fit_zero, fit_zero⟩ ⟨fun _ => ⟨rfl, rfl, rfl, rfl⟩, fun _ => rfl⟩ (Wide.leaf _ rfl) (Wide.leaf _ rfl) (fun h => by cases h) (sameB_refl 8 _)
      refine CallsP.intro Tryd.func15 rfl (by show 4 ≤ 74; decide) ?_
      rintro X hX
      have hn : X.n = 74 := hX
      unfold Tryd.f15
      dsimp only
      rw [entry4]
      repeat' first
       | (with_reducible refine markDQ 8 ?_)
       | with_reducible refine Rl.go (by constructor <;> decide) ?_
       | ((with_reducible first | refine hK _ ?_ | refine hK.1 ?_ | refine hK.2 ?_); clear hK K)
       | ((with_reducible refine condS hK (fun hg => ?_) fun hg => ?_) <;> clear hK K <;> (try simp only [hgW] at hg) <;> try (exfalso; omega))
       | ((with_reducible first | refine callE_PE c29 ?_ | refine callP_PE c29 ?_); simp -implicitDefEqProofs only [eqOk_true, hx3, AD.av, AD.cells, cs_mk, cs_zero, av_mk', List.append_assoc, List.cons_append, List.nil_append, h1, h2, hl2, ml2, g1, g2, hl3, ml3, ht1, hd1, hg1, ht2, hd2, hg2, ht3, hd3, hg3, ht4, hd4, hg4, Int.cast_ofNat_Int, hn, go_sem, simprocAttr]; (skip; try (simp (disch := omega) only [wrW]; try simp -implicitDefEqProofs only [hx3, AD.av, AD.cells, cs_mk, cs_zero, av_mk', List.append_assoc, List.cons_append, List.nil_append, h1, h2, hl2, ml2, g1, g2, hl3, ml3, ht1, hd1, hg1, ht2, hd2, hg2, ht3, hd3, hg3, ht4, hd4, hg4, Int.cast_ofNat_Int, hn, go_sem, simprocAttr])); fail_if_success (with_reducible refine eqOk_mk ?_))
       | ((first | ((with_reducible first | refine Rk.go k15_VsDBack3 (by constructor) ?_); intro K hK) | with_reducible refine Rr.go [] (by constructor) ?_ | (with_reducible refine guardP_split (fun hg => ?_) fun hg => ?_) <;> (try simp only [hg]) <;> (try simp only [hgW] at hg) | refine Rc.go c22 (by constructor) ?_) <;> simp -implicitDefEqProofs only [hx3, AD.av, AD.cells, cs_mk, cs_zero, av_mk', List.append_assoc, List.cons_append, List.nil_append, h1, h2, hl2, ml2, g1, g2, hl3, ml3, ht1, hd1, hg1, ht2, hd2, hg2, ht3, hd3, hg3, ht4, hd4, hg4, Int.cast_ofNat_Int, hn, go_sem, simprocAttr] <;> try (simp (disch := omega) only [wrW]; try simp -implicitDefEqProofs only [hx3, AD.av, AD.cells, cs_mk, cs_zero, av_mk', List.append_assoc, List.cons_append, List.nil_append, h1, h2, hl2, ml2, g1, g2, hl3, ml3, ht1, hd1, hg1, ht2, hd2, hg2, ht3, hd3, hg3, ht4, hd4, hg4, Int.cast_ofNat_Int, hn, go_sem, simprocAttr]))
       | with_reducible refine And.intro (by first | omega | (simp only [hgW]; omega)) ?_
       | (exfalso; omega)
      unfold MarkD
      refine AWP.slim [4, 8] [5, 6] ?_
      simp -implicitDefEqProofs only [Int.cast_ofNat_Int, hn, go_sem, simprocAttr]
      exact T X hX
end Go.Proofs.YtijcpdgfbboamaaDoor
