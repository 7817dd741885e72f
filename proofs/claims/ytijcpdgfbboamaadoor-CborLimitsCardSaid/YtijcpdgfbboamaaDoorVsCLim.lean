/- As many items, and items within one another, as may be; one more is refused: plain law. -/
import Derived.Test.YtijcpdgfbboamaaDoorVsCBack
import Derived.Test.YtijcpdgfbboamaaDoorVsCSettle
open Go Go.VS
namespace Go.Proofs.YtijcpdgfbboamaaDoor
set_option linter.unusedVariables false
def nullI : CI := .mk 9 0 true [] true []
def arrN (N : Nat) : CI := .mk 5 0 true [] false (List.replicate N nullI)
def Mz (N k : Nat) : List UInt8 := List.replicate k 246 ++ List.replicate (N - k) 0
theorem rep_getD {N k : Nat} (h : k < N) : (List.replicate N nullI).getD k default = nullI := by
  rw [List.getD_eq_getElem?_getD, List.getElem?_replicate, if_pos h]; rfl
theorem null_item (valid : List UInt8 → Bool) (d : Nat) (w : WS) : itemW valid badO d nullI w = if 512 < w.items + 1 then (14, { w with items := w.items + 1 }) else (0, ⟨w.b ++ [246], w.items + 1⟩) := by
  unfold itemW
  simp only
  split
  · rfl
  · rfl
theorem null_kids (valid : List UInt8 → Bool) (d N : Nat) : ∀ (n k : Nat) (w : WS), k + n ≤ N →
    (w.items + n ≤ 512 → kidsW (itemW valid badO d) badO false (List.replicate N nullI) n k w = (0, ⟨w.b ++ List.replicate n 246, w.items + n⟩)) ∧
    (512 < w.items + n → w.items ≤ 512 → (kidsW (itemW valid badO d) badO false (List.replicate N nullI) n k w).1 = 14)
  | 0, k, w, _ => ⟨fun _ => by simp [kidsW], fun h h2 => by omega⟩
  | n + 1, k, w, hk => by
    simp only [kidsW, rep_getD (show k < N by omega), null_item]
    rw [if_neg (by simp), if_neg (by simp)]
    by_cases h : 512 < w.items + 1
    · rw [if_pos h]
      simp only
      rw [if_pos (by simp)]
      exact ⟨fun h2 => by omega, fun _ _ => rfl⟩
    · rw [if_neg h]
      simp only
      rw [if_neg (by simp)]
      obtain ⟨h1, h2⟩ := null_kids valid d N n (k + 1) ⟨w.b ++ [246], w.items + 1⟩ (by omega)
      refine ⟨fun h3 => ?_, fun h3 h4 => h2 (by simp only; omega) (by simp only; omega)⟩
      rw [h1 (by simp only; omega)]
      simp only [List.append_assoc, List.replicate_succ, List.cons_append, List.nil_append]
      congr 2
      omega
theorem arrN_ok (valid : List UInt8 → Bool) : encS valid (arrN 511) = (153 :: 1 :: 255 :: List.replicate 511 246, 0) := by
  have e : itemW valid badO 8 (arrN 511) ⟨[], 0⟩ = (0, ⟨153 :: 1 :: 255 :: List.replicate 511 246, 512⟩) := by
    unfold arrN
    rw [itemW_arr _ _ _ _ _ _ (by decide), List.length_replicate]
    obtain ⟨h, _⟩ := null_kids valid 7 511 511 0 (WS.put { (⟨[], 0⟩ : WS) with items := 0 + 1 } (hdW 4 511)) (by omega)
    rw [h (by show 0 + 1 + 511 ≤ 512; decide)]
    rfl
  unfold encS
  simp only
  rw [e]
  simp only [List.length_cons, List.length_replicate]
  rw [if_neg (by simp), if_neg (by decide)]
theorem arrN_many (valid : List UInt8 → Bool) : encS valid (arrN 512) = ([], 14) := by
  have e : (itemW valid badO 8 (arrN 512) ⟨[], 0⟩).1 = 14 := by
    unfold arrN
    rw [itemW_arr _ _ _ _ _ _ (by decide), List.length_replicate]
    obtain ⟨_, h⟩ := null_kids valid 7 512 512 0 (WS.put { (⟨[], 0⟩ : WS) with items := 0 + 1 } (hdW 4 512)) (by omega)
    exact h (by show 512 < 0 + 1 + 512; decide) (by show 0 + 1 ≤ 512; decide)
  unfold encS
  simp only
  rw [e]
  rfl
theorem null_reads (valid : List UInt8 → Bool) (d : Nat) (r : List UInt8) (items : Nat) : itemS valid d ⟨246 :: r, items, 0⟩ = if 512 < items + 1 then (.zero, ⟨246 :: r, items + 1, 14⟩) else (nullI, ⟨r, items + 1, 0⟩) := by
  rw [itemS_eq]
  split
  · rfl
  · have h := headS_of7 2 (by decide) r (items + 1)
    have e : (UInt8.ofNat (244 + 2)) = 246 := rfl
    rw [e] at h
    simp only
    rw [h]
    rfl
theorem null_arr (valid : List UInt8 → Bool) (d : Nat) : ∀ (n : Nat) (items : Nat) (ks : List CI), items ≤ 512 → 512 < items + n → (arrS (itemS valid d) n ⟨List.replicate n 246, items, 0⟩ ks).2.err = 14
  | 0, items, ks, h, h2 => by omega
  | n + 1, items, ks, h, h2 => by
    simp only [arrS, List.replicate_succ, null_reads]
    by_cases h3 : 512 < items + 1
    · rw [if_pos h3]
      simp
    · rw [if_neg h3]
      simp only
      rw [if_neg (by simp)]
      exact null_arr valid d n (items + 1) _ (by omega) (by omega)
theorem whole_many (valid : List UInt8 → Bool) : wholeS valid (153 :: 2 :: 0 :: List.replicate 512 246) = (.zero, 14) := by
  have e : (itemS valid 8 ⟨153 :: 2 :: 0 :: List.replicate 512 246, 0, 0⟩).2.err = 14 := by
    rw [itemS_eq, if_neg (by decide)]
    have h := headS_of 4 512 (by decide) (by decide) (List.replicate 512 246) 1
    have eh : hdW 4 512 ++ List.replicate 512 246 = 153 :: 2 :: 0 :: List.replicate 512 246 := rfl
    rw [eh] at h
    simp only
    rw [h]
    simp only
    rw [if_neg (by simp)]
    have := null_arr valid 7 512 1 [] (by decide) (by decide)
    unfold bodyS
    rw [if_neg (by decide), if_neg (by decide), if_neg (by decide), if_pos (by decide)]
    simp only
    rw [if_pos trivial]
    exact this
  have hd : decS valid (153 :: 2 :: 0 :: List.replicate 512 246) = (.zero, none, 14) := by
    unfold decS
    rw [if_neg (by simp only [List.length_cons, List.length_replicate]; decide)]
    simp only
    rw [e, if_pos (by decide)]
  unfold wholeS
  simp only
  rw [hd]
  rfl
theorem arrN_fit (N : Nat) (h : N ≤ 512) : Fit 8 (arrN N) := by
  refine ⟨⟨by show 5 < 256; decide, by show 0 < _; decide, Nat.zero_le _, by show (List.replicate N nullI).length ≤ _; rw [List.length_replicate]; omega, fun _ => rfl⟩, fun y hy => ?_⟩
  obtain ⟨_, rfl⟩ := List.mem_replicate.1 hy
  exact Fit.leaf 7 rfl ⟨by decide, by decide, by decide, by decide, fun _ => rfl⟩
theorem arrN_whole : wholeS Go.Lib.validD (153 :: 1 :: 255 :: List.replicate 511 246) = (canS (arrN 511), 0) := by
  have h := dec_enc (arrN_fit 511 (by decide)) (arrN_ok Go.Lib.validD) [] (by simp only [List.append_nil, List.length_cons, List.length_replicate]; decide)
  rw [List.append_nil] at h
  unfold wholeS
  simp only
  rw [h]
  rfl
theorem arrN_head (l : List CI) : headB (.mk 5 0 true [] (l.map canS).isEmpty (l.map canS)) (.mk 5 0 true [] false l) = true := by
  unfold headB
  exact decide_eq_true ⟨rfl, rfl, rfl, List.length_map ..⟩
theorem arrN_same : sameB 8 (canS (arrN 511)) (arrN 511) = true := by
  have e : canS (arrN 511) = .mk 5 0 true [] ((List.replicate 511 nullI).map canS).isEmpty ((List.replicate 511 nullI).map canS) := canS_grp (arrN 511) (Or.inl rfl)
  rw [e]
  show (headB _ _ && zipB (sameB 7) ((List.replicate 511 nullI).map canS) (List.replicate 511 nullI)) = true
  rw [zipB_map _ _ _ (fun y hy => by
    obtain ⟨_, rfl⟩ := List.mem_replicate.1 hy
    rfl), Bool.and_true]
  exact arrN_head (List.replicate 511 nullI)
theorem arrN_wide : Wide 8 (arrN 511) := by
  refine ⟨by show (List.replicate 511 nullI).length ≤ _; rw [List.length_replicate]; decide, fun y hy => ?_⟩
  obtain ⟨_, rfl⟩ := List.mem_replicate.1 hy
  exact Wide.leaf _ rfl
theorem arrN_wide2 : Wide 8 (canS (arrN 511)) := by
  have e : canS (arrN 511) = .mk 5 0 true [] ((List.replicate 511 nullI).map canS).isEmpty ((List.replicate 511 nullI).map canS) := canS_grp (arrN 511) (Or.inl rfl)
  rw [e]
  refine ⟨?_, fun y hy => ?_⟩
  · show ((List.replicate 511 nullI).map canS).length ≤ 10000
    rw [List.length_map, List.length_replicate]; decide
  · obtain ⟨z, hz, rfl⟩ := List.mem_map.1 (show y ∈ (List.replicate 511 nullI).map canS from hy)
    obtain ⟨_, rfl⟩ := List.mem_replicate.1 hz
    exact Wide.leaf _ rfl
/-- So many within one another. -/
def nestS : Nat → CI
  | 0 => .mk 5 0 true [] true []
  | k + 1 => .mk 5 0 true [] false [nestS k]
theorem nest_fit : ∀ (k d : Nat), Fit d (nestS k)
  | 0, d => Fit.leaf d rfl ⟨by decide, by decide, by decide, by decide, fun _ => rfl⟩
  | k + 1, d => by
    have hL : Lim (nestS (k + 1)) := ⟨by show 5 < 256; decide, by show 0 < _; decide, Nat.zero_le _, by show 1 ≤ _; decide, fun _ => rfl⟩
    cases d with
    | zero => exact hL
    | succ d => exact ⟨hL, fun y hy => by
        have : y = nestS k := List.mem_singleton.1 hy
        rw [this]; exact nest_fit k d⟩
theorem nest_ok (valid : List UInt8 → Bool) : encS valid (nestS 7) = ([129, 129, 129, 129, 129, 129, 129, 128], 0) ∧ encS valid (nestS 8) = ([], 13) := ⟨by kernel_rfl, by kernel_rfl⟩
theorem nest_whole (valid : List UInt8 → Bool) : wholeS valid [129, 129, 129, 129, 129, 129, 129, 128] = (canS (nestS 7), 0) ∧ wholeS valid [129, 129, 129, 129, 129, 129, 129, 129, 128] = (.zero, 13) := ⟨by kernel_rfl, by kernel_rfl⟩
theorem nest_same : sameB 8 (canS (nestS 7)) (nestS 7) = true := by decide +kernel
theorem nest_wide : Wide 8 (nestS 7) ∧ Wide 8 (canS (nestS 7)) := by
  have go : ∀ k d, k ≤ d → Wide d (nestS k) := by
    intro k
    induction k with
    | zero => exact fun d _ => Wide.leaf d rfl
    | succ k ih =>
      intro d h
      obtain ⟨d, rfl⟩ : ∃ d', d = d' + 1 := ⟨d - 1, by omega⟩
      exact ⟨by show 1 ≤ _; decide, fun y hy => by
        have : y = nestS k := List.mem_singleton.1 hy
        rw [this]; exact ih d (by omega)⟩
  have go2 : ∀ k d, k ≤ d → Wide d (canS (nestS k)) := by
    intro k
    induction k with
    | zero => exact fun d _ => Wide.leaf d rfl
    | succ k ih =>
      intro d h
      obtain ⟨d, rfl⟩ : ∃ d', d = d' + 1 := ⟨d - 1, by omega⟩
      rw [canS_grp _ (Or.inl rfl)]
      exact ⟨by show 1 ≤ _; decide, fun y hy => by
        have : y = canS (nestS k) := List.mem_singleton.1 hy
        rw [this]; exact ih d (by omega)⟩
  exact ⟨go 7 8 (by decide), go2 7 8 (by decide)⟩
theorem mz_set (N k : Nat) (h : k < N) : ((Mz N k).map u8).set k (.int .u8 246) = (Mz N (k + 1)).map u8 := by
  have e : (.int .u8 246 : AV) = u8 246 := rfl
  rw [e, ← List.map_set]
  congr 1
  unfold Mz
  apply List.ext_getElem?
  intro i
  rw [List.getElem?_set, List.length_append, List.length_replicate, List.length_replicate]
  by_cases hi : k = i
  · subst hi
    rw [if_pos rfl, if_pos (by omega), List.getElem?_append_left (by rw [List.length_replicate]; omega), List.getElem?_replicate, if_pos (by omega)]
  · rw [if_neg hi]
    by_cases h1 : i < k
    · rw [List.getElem?_append_left (by rw [List.length_replicate]; exact h1), List.getElem?_append_left (by rw [List.length_replicate]; omega), List.getElem?_replicate, List.getElem?_replicate, if_pos h1, if_pos (by omega)]
    · rw [List.getElem?_append_right (by rw [List.length_replicate]; omega), List.getElem?_append_right (by rw [List.length_replicate]; omega), List.length_replicate, List.length_replicate, List.getElem?_replicate, List.getElem?_replicate]
      by_cases h2 : i < N
      · rw [if_pos (by omega), if_pos (by omega)]
      · rw [if_neg (by omega), if_neg (by omega)]
theorem mz_0 (N : Nat) : List.replicate N (AV.int .u8 0) = (Mz N 0).map u8 := by
  unfold Mz
  simp [u8]
theorem mz_n (N : Nat) : Mz N N = List.replicate N 246 := by unfold Mz; simp
theorem mz_len (N k : Nat) (h : k ≤ N) : (Mz N k).length = N := by unfold Mz; simp; omega
end Go.Proofs.YtijcpdgfbboamaaDoor
open Go Go.VS
namespace Go.Proofs.YtijcpdgfbboamaaDoor
set_option linter.unusedVariables false
set_option linter.unusedSimpArgs false
set_option maxRecDepth 20000
set_option maxHeartbeats 4000000
theorem null_av : nullI.av = .agg [.int .u8 9, .int .u64 0, .sl none true 1 [], .sl none true 4 []] := rfl
theorem arrN_av (N : Nat) : (arrN N).av = .agg [.int .u8 5, .int .u64 0, .sl none true 1 [], .sl none false 4 ((List.replicate N nullI).map CI.av)] := by
  unfold arrN
  rw [av_mk']
  rfl
theorem rep_snoc (k : Nat) : (List.replicate k nullI).map CI.av ++ [AV.agg [.int .u8 9, .int .u64 0, .sl none true 1 [], .sl none true 4 []]] = (List.replicate (k + 1) nullI).map CI.av := by
  rw [List.replicate_succ', List.map_append]; rfl
theorem f11_many (what over : UInt8) (hw : what.toNat % 2 = 0) : CallsP Tryd.prog 11 [.int .u8 what.toNat, .int .u8 over.toNat] (.bool true) := by
  obtain ⟨m, hm⟩ : ∃ m, over.toNat % 2 = m := ⟨_, rfl⟩
  have hm2 : m < 2 := by omega
  have em : (over.toNat : Int) % 2 = (m : Int) := by omega
  have ew : (what.toNat : Int) % 2 = 0 := by omega
  obtain ⟨N, hN⟩ : ∃ N, 511 + m = N := ⟨_, rfl⟩
  have eN : 511 + (m : Int) = (N : Int) := by omega
  obtain ⟨A, B, hA, hB, hAB⟩ : ∃ A B : UInt8, IntKind.u8.wrap ((N : Int).fdiv 256) = (A.toNat : Int) ∧ IntKind.u8.wrap (N : Int) = (B.toNat : Int) ∧ ((m = 0 ∧ A = 1 ∧ B = 255) ∨ (m = 1 ∧ A = 2 ∧ B = 0)) := by
    rcases (show m = 0 ∨ m = 1 by omega) with rfl | rfl
    · subst hN; exact ⟨1, 255, by decide, by decide, .inl ⟨rfl, rfl, rfl⟩⟩
    · subst hN; exact ⟨2, 0, by decide, by decide, .inr ⟨rfl, rfl, rfl⟩⟩
  have hNb : 511 ≤ N ∧ N ≤ 512 := by omega
  have hA' : (N : Int) / 256 = (A.toNat : Int) := by
    rw [← hA, Int.fdiv_eq_ediv_of_nonneg _ (by decide)]
    exact (Go.IntWalk.u8_in _ (by omega)).symm
  obtain ⟨Bz, hBz⟩ : ∃ Bz : Nat → List UInt8, ∀ k, Bz k = 153 :: A :: B :: Mz N k := ⟨_, fun _ => rfl⟩
  have hB0 : (AV.int .u8 153 :: AV.int .u8 (A.toNat : Int) :: AV.int .u8 (B.toNat : Int) :: (Mz N 0).map u8) = (Bz 0).map u8 := by rw [hBz]; rfl
  have hBl : ∀ k, k ≤ N → (Bz k).length = N + 3 := fun k hk => by rw [hBz]; simp only [List.length_cons, mz_len N k hk]
  have hBs : ∀ k, k < N → ((Bz k).map u8).set (3 + (k : Int)).toNat (.int .u8 246) = (Bz (k + 1)).map u8 := by
    intro k hk
    rw [hBz, hBz, show (3 + (k : Int)).toNat = k + 3 by omega]
    simp only [List.map_cons, List.set_cons_succ]
    rw [mz_set N k hk]
  have hm0 := mz_len N 0 (Nat.zero_le _)
  refine CallsP.intro Tryd.func11 rfl (by show 2 ≤ 108; decide) ?_
  rintro X hX
  have hn : X.n = 108 := hX
  unfold Tryd.f11
  dsimp only
  rw [entry2]
  repeat' first
    | with_reducible (first | refine AWP.seqA ?_ | refine AWP.seqB ?_ | refine AWP.block ?_ | refine AWP.skipN ?_ | refine AWP.skip ?_ | refine AWP.exit ?_ | refine AWP.ret ?_ | refine LoopN.succ ?_ | refine thenS_n ?_ | refine thenS_x ?_ | refine thenS_r ?_ | refine blockS_n ?_ | refine blockS_r ?_ | refine blockS_x ?_ | refine blockS_y (by decide) ?_)
    | ((with_reducible refine hK _ ?_); clear hK K) | ((with_reducible refine hKt ?_); clear hKt hKf Kt Kf) | ((with_reducible refine hKf ?_); clear hKt hKf Kt Kf) | ((with_reducible refine condP_split (fun hg => hKt ?_) (fun hg => hKf ?_)) <;> clear hKt hKf Kt Kf <;> (try simp only [hgW] at hg) <;> try (exfalso; omega))
    | ((first | (with_reducible refine guardP_split (fun hg => ?_) (fun hg => ?_)) <;> simp -implicitDefEqProofs only [hg, em, ew, eN, Int.cast_ofNat_Int, hn, go_sem, simprocAttr] <;> (try simp only [hgW] at hg) | ((first | with_reducible (first | refine AWP.seqRB [0,1,4,5,6,7,8,9,10,11,12,13,14,16,23,26,27,28,44,45,46,55,56,57,76] fun K hK => ?_ | refine AWP.lastRB [0,1,4,5,6,7,8,9,10,11,12,13,14,16,23,26,27,28,44,45,46,55,56,57,76] fun K hK => ?_ | refine AWP.seqC fun Kt Kf hKt hKf => ?_ | refine AWP.condK fun Kt Kf hKt hKf => ?_ | refine retS_ret ?_ | refine retS_end ?_ | refine retSB_ret [] ?_ | refine retSB_end [] ?_ | refine retSF_ret [] ?_ | refine retSF_end [] ?_) | refine callE_P (f17_ok) ?_ | refine callP_intro2 (f17_ok) ?_ | refine callE_X (f17_ok) ?_); simp -implicitDefEqProofs only [em, ew, eN, Int.cast_ofNat_Int, hn, go_sem, simprocAttr])) <;> try (simp (disch := omega) only [wrW]; try simp -implicitDefEqProofs only [em, ew, eN, Int.cast_ofNat_Int, hn, go_sem, simprocAttr]))
    | with_reducible refine And.intro (by first | omega | (simp only [hgW]; omega)) ?_
    | (exfalso; omega)
  refine AWP.adoptB 6 3 (0, 999) 0 4 (by rfl) (by rfl) ?_
  refine AWP.loopX [4, 5, 6, 7, 9, 26, 27] [] (fun k : Nat => St.mk (lk [(4, .bool false), (5, .int .i64 (m : Int)), (6, .ptr 6 0), (7, .int .i64 14), (9, .int .i64 (N : Int)), (26, .int .i64 (N : Int)), (27, .int .i64 (k : Int))])
      (lkB [(6, [.int .u8 5, .int .u64 0, .sl none true 1 [], .sl (some ((0, 999), 0)) (decide (k = 0)) 4 ((List.replicate k nullI).map CI.av)])]) (hasS []) (hasS []) (hasN []) (lkR []))
    (fun k => k ≤ N) (fun k => N - k) 0 ?_ (Nat.zero_le _) ?_
  · simp -implicitDefEqProofs only [Int.cast_ofNat_Int, hn, go_sem, simprocAttr]
    try rfl
  rintro k hk
  by_cases hkn : k = N
  · have hk0 : decide (k = 0) = false := decide_eq_false (by omega)
    rw [hk0]
    subst hkn
    repeat' first
      | with_reducible (first | refine AWP.seqA ?_ | refine AWP.seqB ?_ | refine AWP.block ?_ | refine AWP.skipN ?_ | refine AWP.skip ?_ | refine AWP.exit ?_ | refine AWP.ret ?_ | refine LoopN.succ ?_ | refine thenS_n ?_ | refine thenS_x ?_ | refine thenS_r ?_ | refine blockS_n ?_ | refine blockS_r ?_ | refine blockS_x ?_ | refine blockS_y (by decide) ?_)
      | ((with_reducible refine hK _ ?_); clear hK K) | ((with_reducible refine hKt ?_); clear hKt hKf Kt Kf) | ((with_reducible refine hKf ?_); clear hKt hKf Kt Kf) | ((with_reducible refine condP_split (fun hg => hKt ?_) (fun hg => hKf ?_)) <;> clear hKt hKf Kt Kf <;> (try simp only [hgW] at hg) <;> try (exfalso; omega))
      | ((first | (with_reducible refine guardP_split (fun hg => ?_) (fun hg => ?_)) <;> simp -implicitDefEqProofs only [hg, hA', hB, mz_0, hm0, Int.cast_ofNat_Int, hn, go_sem, simprocAttr] <;> (try simp only [hgW] at hg) | ((first | with_reducible (first | refine AWP.seqRB [0,1,4,5,6,7,8,9,10,11,12,13,14,16,23,26,27,28,44,45,46,55,56,57,76] fun K hK => ?_ | refine AWP.lastRB [0,1,4,5,6,7,8,9,10,11,12,13,14,16,23,26,27,28,44,45,46,55,56,57,76] fun K hK => ?_ | refine AWP.seqC fun Kt Kf hKt hKf => ?_ | refine AWP.condK fun Kt Kf hKt hKf => ?_ | refine retS_ret ?_ | refine retS_end ?_ | refine retSB_ret [] ?_ | refine retSB_end [] ?_ | refine retSF_ret [] ?_ | refine retSF_end [] ?_)); simp -implicitDefEqProofs only [hA', hB, mz_0, hm0, Int.cast_ofNat_Int, hn, go_sem, simprocAttr])) <;> try (simp (disch := omega) only [wrW]; try simp -implicitDefEqProofs only [hA', hB, mz_0, hm0, Int.cast_ofNat_Int, hn, go_sem, simprocAttr]))
      | with_reducible refine And.intro (by first | omega | (simp only [hgW]; omega)) ?_
      | (exfalso; omega)
    refine AWP.loopX [4, 5, 6, 7, 8, 44, 45] [] (fun j : Nat => St.mk (lk [(4, .bool false), (5, .int .i64 (m : Int)), (6, .ptr 6 0), (7, .int .i64 14), (8, .sl (some ((0, 41), 0)) false 1 ((Bz j).map u8)), (44, .int .i64 (k : Int)), (45, .int .i64 (j : Int))])
        (lkB [(6, [.int .u8 5, .int .u64 0, .sl none true 1 [], .sl (some ((0, 999), 0)) false 4 ((List.replicate k nullI).map CI.av)])]) (hasS []) (hasS []) (hasN []) (lkR []))
      (fun j => j ≤ k) (fun j => k - j) 0 ?_ (Nat.zero_le _) ?_
    · simp -implicitDefEqProofs only [hB0, Int.cast_ofNat_Int, hn, go_sem, simprocAttr]
      try rfl
    rintro j hj
    by_cases hjn : j = k
    · subst hjn
      have hBn : Bz j = 153 :: A :: B :: List.replicate j 246 := by rw [hBz, mz_n]
      have hln := hBl j (Nat.le_refl _)
      have c25 := f25_ok validI (arrN j) (arrN_fit j hNb.2)
      have c21 := f21_ok valid_ok false (Bz j) (fun h => by cases h) (by omega)
      rcases hAB with ⟨h0, rfl, rfl⟩ | ⟨h0, rfl, rfl⟩
      · obtain rfl : j = 511 := by omega
        rw [arrN_ok, ← hBn] at c25
        rw [hBn, arrN_whole, ← hBn] at c21
        have c27 := f27_all 8 (canS (arrN 511)) (arrN 511) arrN_wide2 arrN_wide
        rw [arrN_same] at c27
        have hne : (Bz 511).isEmpty = false := by rw [hBn]; rfl
        rw [arrN_av] at c25 c27
        subst h0
        generalize canS (arrN 511) = y at *
        obtain ⟨yk, yn, ybn, yb, ykn, yks⟩ := y
        generalize List.replicate 511 nullI = ks at *
        simp only [av_mk', bytesAV, hne] at c21 c25 c27
        repeat' first
          | with_reducible (first | refine AWP.seqA ?_ | refine AWP.seqB ?_ | refine AWP.block ?_ | refine AWP.skipN ?_ | refine AWP.skip ?_ | refine AWP.exit ?_ | refine AWP.ret ?_ | refine LoopN.succ ?_ | refine thenS_n ?_ | refine thenS_x ?_ | refine thenS_r ?_ | refine blockS_n ?_ | refine blockS_r ?_ | refine blockS_x ?_ | refine blockS_y (by decide) ?_)
          | ((with_reducible refine hK _ ?_); clear hK K) | ((with_reducible refine hKt ?_); clear hKt hKf Kt Kf) | ((with_reducible refine hKf ?_); clear hKt hKf Kt Kf) | ((with_reducible refine condP_split (fun hg => hKt ?_) (fun hg => hKf ?_)) <;> clear hKt hKf Kt Kf <;> (try simp only [hgW] at hg) <;> try (exfalso; omega))
          | ((first | (with_reducible refine guardP_split (fun hg => ?_) (fun hg => ?_)) <;> simp -implicitDefEqProofs only [hg, av_mk', Int.cast_ofNat_Int, hn, go_sem, simprocAttr] <;> (try simp only [hgW] at hg) | ((first | with_reducible (first | refine AWP.seqRB [0,1,4,5,6,7,8,9,10,11,12,13,14,16,23,26,27,28,44,45,46,55,56,57,76] fun K hK => ?_ | refine AWP.lastRB [0,1,4,5,6,7,8,9,10,11,12,13,14,16,23,26,27,28,44,45,46,55,56,57,76] fun K hK => ?_ | refine AWP.seqC fun Kt Kf hKt hKf => ?_ | refine AWP.condK fun Kt Kf hKt hKf => ?_ | refine retS_ret ?_ | refine retS_end ?_ | refine retSB_ret [] ?_ | refine retSB_end [] ?_ | refine retSF_ret [] ?_ | refine retSF_end [] ?_) | refine callE_P (c25) ?_ | refine callP_intro2 (c25) ?_ | refine callE_X (c25) ?_ | refine callE_P (c21) ?_ | refine callP_intro2 (c21) ?_ | refine callE_X (c21) ?_ | refine callE_P (c27) ?_ | refine callP_intro2 (c27) ?_ | refine callE_X (c27) ?_); simp -implicitDefEqProofs only [av_mk', Int.cast_ofNat_Int, hn, go_sem, simprocAttr])) <;> try (simp (disch := omega) only [wrW]; try simp -implicitDefEqProofs only [av_mk', Int.cast_ofNat_Int, hn, go_sem, simprocAttr]))
          | with_reducible refine And.intro (by first | omega | (simp only [hgW]; omega)) ?_
          | (exfalso; omega)
      · obtain rfl : j = 512 := by omega
        rw [arrN_many] at c25
        rw [hBn, whole_many, ← hBn] at c21
        rw [arrN_av] at c25
        subst h0
        generalize List.replicate 512 nullI = ks at *
        simp only [zero_av, bytesAV] at c21 c25
        repeat' first
          | with_reducible (first | refine AWP.seqA ?_ | refine AWP.seqB ?_ | refine AWP.block ?_ | refine AWP.skipN ?_ | refine AWP.skip ?_ | refine AWP.exit ?_ | refine AWP.ret ?_ | refine LoopN.succ ?_ | refine thenS_n ?_ | refine thenS_x ?_ | refine thenS_r ?_ | refine blockS_n ?_ | refine blockS_r ?_ | refine blockS_x ?_ | refine blockS_y (by decide) ?_)
          | ((with_reducible refine hK _ ?_); clear hK K) | ((with_reducible refine hKt ?_); clear hKt hKf Kt Kf) | ((with_reducible refine hKf ?_); clear hKt hKf Kt Kf) | ((with_reducible refine condP_split (fun hg => hKt ?_) (fun hg => hKf ?_)) <;> clear hKt hKf Kt Kf <;> (try simp only [hgW] at hg) <;> try (exfalso; omega))
          | ((first | (with_reducible refine guardP_split (fun hg => ?_) (fun hg => ?_)) <;> simp -implicitDefEqProofs only [hg, zero_av, Int.cast_ofNat_Int, hn, go_sem, simprocAttr] <;> (try simp only [hgW] at hg) | ((first | with_reducible (first | refine AWP.seqRB [0,1,4,5,6,7,8,9,10,11,12,13,14,16,23,26,27,28,44,45,46,55,56,57,76] fun K hK => ?_ | refine AWP.lastRB [0,1,4,5,6,7,8,9,10,11,12,13,14,16,23,26,27,28,44,45,46,55,56,57,76] fun K hK => ?_ | refine AWP.seqC fun Kt Kf hKt hKf => ?_ | refine AWP.condK fun Kt Kf hKt hKf => ?_ | refine retS_ret ?_ | refine retS_end ?_ | refine retSB_ret [] ?_ | refine retSB_end [] ?_ | refine retSF_ret [] ?_ | refine retSF_end [] ?_) | refine callE_P (c25) ?_ | refine callP_intro2 (c25) ?_ | refine callE_X (c25) ?_ | refine callE_P (c21) ?_ | refine callP_intro2 (c21) ?_ | refine callE_X (c21) ?_); simp -implicitDefEqProofs only [zero_av, Int.cast_ofNat_Int, hn, go_sem, simprocAttr])) <;> try (simp (disch := omega) only [wrW]; try simp -implicitDefEqProofs only [zero_av, Int.cast_ofNat_Int, hn, go_sem, simprocAttr]))
          | with_reducible refine And.intro (by first | omega | (simp only [hgW]; omega)) ?_
          | (exfalso; omega)
    · have e2 : (j : Int) + 1 = ((j + 1 : Nat) : Int) := by omega
      have h1 := hBl j hj
      have h2 := hBs j (by omega)
      repeat' first
        | with_reducible (first | refine AWP.seqA ?_ | refine AWP.seqB ?_ | refine AWP.block ?_ | refine AWP.skipN ?_ | refine AWP.skip ?_ | refine AWP.exit ?_ | refine AWP.ret ?_ | refine LoopN.succ ?_ | refine thenS_n ?_ | refine thenS_x ?_ | refine thenS_r ?_ | refine blockS_n ?_ | refine blockS_r ?_ | refine blockS_x ?_ | refine blockS_y (by decide) ?_)
        | ((with_reducible refine hK _ ?_); clear hK K) | ((with_reducible refine hKt ?_); clear hKt hKf Kt Kf) | ((with_reducible refine hKf ?_); clear hKt hKf Kt Kf) | ((with_reducible refine condP_split (fun hg => hKt ?_) (fun hg => hKf ?_)) <;> clear hKt hKf Kt Kf <;> (try simp only [hgW] at hg) <;> try (exfalso; omega))
        | ((first | (with_reducible refine guardP_split (fun hg => ?_) (fun hg => ?_)) <;> simp -implicitDefEqProofs only [hg, h1, h2, Int.cast_ofNat_Int, hn, go_sem, simprocAttr] <;> (try simp only [hgW] at hg) | ((first | with_reducible (first | refine AWP.seqRB [0,1,4,5,6,7,8,9,10,11,12,13,14,16,23,26,27,28,44,45,46,55,56,57,76] fun K hK => ?_ | refine AWP.lastRB [0,1,4,5,6,7,8,9,10,11,12,13,14,16,23,26,27,28,44,45,46,55,56,57,76] fun K hK => ?_ | refine AWP.seqC fun Kt Kf hKt hKf => ?_ | refine AWP.condK fun Kt Kf hKt hKf => ?_ | refine retS_ret ?_ | refine retS_end ?_ | refine retSB_ret [] ?_ | refine retSB_end [] ?_ | refine retSF_ret [] ?_ | refine retSF_end [] ?_)); simp -implicitDefEqProofs only [h1, h2, Int.cast_ofNat_Int, hn, go_sem, simprocAttr])) <;> try (simp (disch := omega) only [wrW]; try simp -implicitDefEqProofs only [h1, h2, Int.cast_ofNat_Int, hn, go_sem, simprocAttr]))
        | with_reducible refine And.intro (by first | omega | (simp only [hgW]; omega)) ?_
        | (exfalso; omega)
      refine ⟨j + 1, ?_, by omega, by omega⟩
      rw [e2]
      simp -implicitDefEqProofs only [Int.cast_ofNat_Int, hn, go_sem, simprocAttr]
      try rfl
  · have e2 : (k : Int) + 1 = ((k + 1 : Nat) : Int) := by omega
    repeat' first
      | with_reducible (first | refine AWP.seqA ?_ | refine AWP.seqB ?_ | refine AWP.block ?_ | refine AWP.skipN ?_ | refine AWP.skip ?_ | refine AWP.exit ?_ | refine AWP.ret ?_ | refine LoopN.succ ?_ | refine thenS_n ?_ | refine thenS_x ?_ | refine thenS_r ?_ | refine blockS_n ?_ | refine blockS_r ?_ | refine blockS_x ?_ | refine blockS_y (by decide) ?_)
      | ((with_reducible refine hK _ ?_); clear hK K) | ((with_reducible refine hKt ?_); clear hKt hKf Kt Kf) | ((with_reducible refine hKf ?_); clear hKt hKf Kt Kf) | ((with_reducible refine condP_split (fun hg => hKt ?_) (fun hg => hKf ?_)) <;> clear hKt hKf Kt Kf <;> (try simp only [hgW] at hg) <;> try (exfalso; omega))
      | ((first | (with_reducible refine guardP_split (fun hg => ?_) (fun hg => ?_)) <;> simp -implicitDefEqProofs only [hg, rep_snoc, Int.cast_ofNat_Int, hn, go_sem, simprocAttr] <;> (try simp only [hgW] at hg) | ((first | with_reducible (first | refine AWP.seqRB [0,1,4,5,6,7,8,9,10,11,12,13,14,16,23,26,27,28,44,45,46,55,56,57,76] fun K hK => ?_ | refine AWP.lastRB [0,1,4,5,6,7,8,9,10,11,12,13,14,16,23,26,27,28,44,45,46,55,56,57,76] fun K hK => ?_ | refine AWP.seqC fun Kt Kf hKt hKf => ?_ | refine AWP.condK fun Kt Kf hKt hKf => ?_ | refine retS_ret ?_ | refine retS_end ?_ | refine retSB_ret [] ?_ | refine retSB_end [] ?_ | refine retSF_ret [] ?_ | refine retSF_end [] ?_)); simp -implicitDefEqProofs only [rep_snoc, Int.cast_ofNat_Int, hn, go_sem, simprocAttr])) <;> try (simp (disch := omega) only [wrW]; try simp -implicitDefEqProofs only [rep_snoc, Int.cast_ofNat_Int, hn, go_sem, simprocAttr]))
      | with_reducible refine And.intro (by first | omega | (simp only [hgW]; omega)) ?_
      | (exfalso; omega)
    refine ⟨k + 1, ?_, by omega, by omega⟩
    rw [e2]
    simp -implicitDefEqProofs only [rep_snoc, Int.cast_ofNat_Int, hn, go_sem, simprocAttr]
    try rfl
def nb8 (k : Nat) : List UInt8 := List.replicate k 129 ++ [128]
theorem nest_av (k : Nat) : AV.agg [.int .u8 5, .int .u64 0, .sl none true 1 [], .sl none (decide (k = 0)) 4 ((nestS k).ks.map CI.av)] = (nestS k).av := by
  cases k with
  | zero => rw [nestS, av_mk']; rfl
  | succ k => rw [nestS, av_mk']; rfl
theorem nest_ks (k : Nat) : (nestS (k + 1)).ks.map CI.av = [(nestS k).av] := rfl
theorem nb8_s (k : Nat) : AV.int .u8 129 :: (nb8 k).map u8 = (nb8 (k + 1)).map u8 := rfl
theorem f11_deep (what over : UInt8) (hw : what.toNat % 2 = 1) : CallsP Tryd.prog 11 [.int .u8 what.toNat, .int .u8 over.toNat] (.bool true) := by
  have ew : (what.toNat : Int) % 2 = 1 := by omega
  obtain ⟨m, hm⟩ : ∃ m, over.toNat % 2 = m := ⟨_, rfl⟩
  have em : (over.toNat : Int) % 2 = (m : Int) := by omega
  obtain ⟨N, hN⟩ : ∃ N, 7 + m = N := ⟨_, rfl⟩
  have eN : 7 + (m : Int) = (N : Int) := by omega
  refine CallsP.intro Tryd.func11 rfl (by show 2 ≤ 108; decide) ?_
  rintro X hX
  have hn : X.n = 108 := hX
  unfold Tryd.f11
  dsimp only
  rw [entry2]
  repeat' first
    | with_reducible (first | refine AWP.seqA ?_ | refine AWP.seqB ?_ | refine AWP.block ?_ | refine AWP.skipN ?_ | refine AWP.skip ?_ | refine AWP.exit ?_ | refine AWP.ret ?_ | refine LoopN.succ ?_ | refine thenS_n ?_ | refine thenS_x ?_ | refine thenS_r ?_ | refine blockS_n ?_ | refine blockS_r ?_ | refine blockS_x ?_ | refine blockS_y (by decide) ?_)
    | ((with_reducible refine hK _ ?_); clear hK K) | ((with_reducible refine hKt ?_); clear hKt hKf Kt Kf) | ((with_reducible refine hKf ?_); clear hKt hKf Kt Kf) | ((with_reducible refine condP_split (fun hg => hKt ?_) (fun hg => hKf ?_)) <;> clear hKt hKf Kt Kf <;> (try simp only [hgW] at hg) <;> try (exfalso; omega))
    | ((first | (with_reducible refine guardP_split (fun hg => ?_) (fun hg => ?_)) <;> simp -implicitDefEqProofs only [hg, em, ew, eN, Int.cast_ofNat_Int, hn, go_sem, simprocAttr] <;> (try simp only [hgW] at hg) | ((first | with_reducible (first | refine AWP.seqRB [0,1,4,5,6,7,8,9,10,11,12,13,14,16,23,26,27,28,44,45,46,55,56,57,76] fun K hK => ?_ | refine AWP.lastRB [0,1,4,5,6,7,8,9,10,11,12,13,14,16,23,26,27,28,44,45,46,55,56,57,76] fun K hK => ?_ | refine AWP.seqC fun Kt Kf hKt hKf => ?_ | refine AWP.condK fun Kt Kf hKt hKf => ?_ | refine retS_ret ?_ | refine retS_end ?_ | refine retSB_ret [] ?_ | refine retSB_end [] ?_ | refine retSF_ret [] ?_ | refine retSF_end [] ?_) | refine callE_P (f17_ok) ?_ | refine callP_intro2 (f17_ok) ?_ | refine callE_X (f17_ok) ?_); simp -implicitDefEqProofs only [em, ew, eN, Int.cast_ofNat_Int, hn, go_sem, simprocAttr])) <;> try (simp (disch := omega) only [wrW]; try simp -implicitDefEqProofs only [em, ew, eN, Int.cast_ofNat_Int, hn, go_sem, simprocAttr]))
    | with_reducible refine And.intro (by first | omega | (simp only [hgW]; omega)) ?_
    | (exfalso; omega)
  refine AWP.loopX [4, 5, 6, 7, 8, 55, 56] [] (fun k : Nat => St.mk (lk [(4, .bool false), (5, .int .i64 (m : Int)), (6, .ptr 6 0), (7, .int .i64 13), (8, .sl (some ((0, if k = 0 then 53 else 61), 0)) false 1 ((nb8 k).map u8)), (55, .int .i64 (N : Int)), (56, .int .i64 (k : Int))])
      (lkB [(6, [.int .u8 5, .int .u64 0, .sl none true 1 [], .sl (if k = 0 then none else some ((0, 59), 0)) (decide (k = 0)) 4 ((nestS k).ks.map CI.av)])]) (hasS []) (hasS []) (hasN []) (lkR []))
    (fun k => k ≤ N) (fun k => N - k) 0 ?_ (Nat.zero_le _) ?_
  · simp -implicitDefEqProofs only [Int.cast_ofNat_Int, hn, go_sem, simprocAttr]
    try rfl
  rintro k hk
  by_cases hkn : k = N
  · subst hkn
    rw [if_neg (by omega), if_neg (by omega), decide_eq_false (show ¬ k = 0 by omega)]
    rcases (show m = 0 ∨ m = 1 by omega) with rfl | rfl
    · obtain rfl : k = 7 := by omega
      have c25 := f25_ok validI (nestS 7) (nest_fit 7 8)
      rw [(nest_ok Go.Lib.validD).1] at c25
      have c21 := f21_ok valid_ok false (nb8 7) (fun h => by cases h) (by decide)
      rw [show wholeS Go.Lib.validD (nb8 7) = _ from (nest_whole Go.Lib.validD).1] at c21
      have c27 := f27_all 8 (canS (nestS 7)) (nestS 7) nest_wide.2 nest_wide.1
      rw [nest_same] at c27
      rw [← nest_av] at c25 c27
      rw [decide_eq_false (show ¬ 7 = 0 by omega)] at c25 c27
      have hb : bytesAV [129, 129, 129, 129, 129, 129, 129, 128] = .sl none false 1 ((nb8 7).map u8) := rfl
      simp only [hb] at c25
      generalize canS (nestS 7) = y at *
      obtain ⟨yk, yn, ybn, yb, ykn, yks⟩ := y
      generalize (nestS 7).ks = ks at *
      generalize nb8 7 = bs at *
      simp only [av_mk'] at c21 c27
      repeat' first
        | with_reducible (first | refine AWP.seqA ?_ | refine AWP.seqB ?_ | refine AWP.block ?_ | refine AWP.skipN ?_ | refine AWP.skip ?_ | refine AWP.exit ?_ | refine AWP.ret ?_ | refine LoopN.succ ?_ | refine thenS_n ?_ | refine thenS_x ?_ | refine thenS_r ?_ | refine blockS_n ?_ | refine blockS_r ?_ | refine blockS_x ?_ | refine blockS_y (by decide) ?_)
        | ((with_reducible refine hK _ ?_); clear hK K) | ((with_reducible refine hKt ?_); clear hKt hKf Kt Kf) | ((with_reducible refine hKf ?_); clear hKt hKf Kt Kf) | ((with_reducible refine condP_split (fun hg => hKt ?_) (fun hg => hKf ?_)) <;> clear hKt hKf Kt Kf <;> (try simp only [hgW] at hg) <;> try (exfalso; omega))
        | ((first | (with_reducible refine guardP_split (fun hg => ?_) (fun hg => ?_)) <;> simp -implicitDefEqProofs only [hg, av_mk', Int.cast_ofNat_Int, hn, go_sem, simprocAttr] <;> (try simp only [hgW] at hg) | ((first | with_reducible (first | refine AWP.seqRB [0,1,4,5,6,7,8,9,10,11,12,13,14,16,23,26,27,28,44,45,46,55,56,57,76] fun K hK => ?_ | refine AWP.lastRB [0,1,4,5,6,7,8,9,10,11,12,13,14,16,23,26,27,28,44,45,46,55,56,57,76] fun K hK => ?_ | refine AWP.seqC fun Kt Kf hKt hKf => ?_ | refine AWP.condK fun Kt Kf hKt hKf => ?_ | refine retS_ret ?_ | refine retS_end ?_ | refine retSB_ret [] ?_ | refine retSB_end [] ?_ | refine retSF_ret [] ?_ | refine retSF_end [] ?_) | refine callE_P (c25) ?_ | refine callP_intro2 (c25) ?_ | refine callE_X (c25) ?_ | refine callE_P (c21) ?_ | refine callP_intro2 (c21) ?_ | refine callE_X (c21) ?_ | refine callE_P (c27) ?_ | refine callP_intro2 (c27) ?_ | refine callE_X (c27) ?_); simp -implicitDefEqProofs only [av_mk', Int.cast_ofNat_Int, hn, go_sem, simprocAttr])) <;> try (simp (disch := omega) only [wrW]; try simp -implicitDefEqProofs only [av_mk', Int.cast_ofNat_Int, hn, go_sem, simprocAttr]))
        | with_reducible refine And.intro (by first | omega | (simp only [hgW]; omega)) ?_
        | (exfalso; omega)
    · obtain rfl : k = 8 := by omega
      have c25 := f25_ok validI (nestS 8) (nest_fit 8 8)
      rw [(nest_ok Go.Lib.validD).2] at c25
      have c21 := f21_ok valid_ok false (nb8 8) (fun h => by cases h) (by decide)
      rw [show wholeS Go.Lib.validD (nb8 8) = _ from (nest_whole Go.Lib.validD).2] at c21
      rw [← nest_av] at c25
      rw [decide_eq_false (show ¬ 8 = 0 by omega)] at c25
      generalize (nestS 8).ks = ks at *
      generalize nb8 8 = bs at *
      simp only [zero_av, bytesAV, List.isEmpty_nil] at c21 c25
      repeat' first
        | with_reducible (first | refine AWP.seqA ?_ | refine AWP.seqB ?_ | refine AWP.block ?_ | refine AWP.skipN ?_ | refine AWP.skip ?_ | refine AWP.exit ?_ | refine AWP.ret ?_ | refine LoopN.succ ?_ | refine thenS_n ?_ | refine thenS_x ?_ | refine thenS_r ?_ | refine blockS_n ?_ | refine blockS_r ?_ | refine blockS_x ?_ | refine blockS_y (by decide) ?_)
        | ((with_reducible refine hK _ ?_); clear hK K) | ((with_reducible refine hKt ?_); clear hKt hKf Kt Kf) | ((with_reducible refine hKf ?_); clear hKt hKf Kt Kf) | ((with_reducible refine condP_split (fun hg => hKt ?_) (fun hg => hKf ?_)) <;> clear hKt hKf Kt Kf <;> (try simp only [hgW] at hg) <;> try (exfalso; omega))
        | ((first | (with_reducible refine guardP_split (fun hg => ?_) (fun hg => ?_)) <;> simp -implicitDefEqProofs only [hg, zero_av, Int.cast_ofNat_Int, hn, go_sem, simprocAttr] <;> (try simp only [hgW] at hg) | ((first | with_reducible (first | refine AWP.seqRB [0,1,4,5,6,7,8,9,10,11,12,13,14,16,23,26,27,28,44,45,46,55,56,57,76] fun K hK => ?_ | refine AWP.lastRB [0,1,4,5,6,7,8,9,10,11,12,13,14,16,23,26,27,28,44,45,46,55,56,57,76] fun K hK => ?_ | refine AWP.seqC fun Kt Kf hKt hKf => ?_ | refine AWP.condK fun Kt Kf hKt hKf => ?_ | refine retS_ret ?_ | refine retS_end ?_ | refine retSB_ret [] ?_ | refine retSB_end [] ?_ | refine retSF_ret [] ?_ | refine retSF_end [] ?_) | refine callE_P (c25) ?_ | refine callP_intro2 (c25) ?_ | refine callE_X (c25) ?_ | refine callE_P (c21) ?_ | refine callP_intro2 (c21) ?_ | refine callE_X (c21) ?_); simp -implicitDefEqProofs only [zero_av, Int.cast_ofNat_Int, hn, go_sem, simprocAttr])) <;> try (simp (disch := omega) only [wrW]; try simp -implicitDefEqProofs only [zero_av, Int.cast_ofNat_Int, hn, go_sem, simprocAttr]))
        | with_reducible refine And.intro (by first | omega | (simp only [hgW]; omega)) ?_
        | (exfalso; omega)
  · have e2 : (k : Int) + 1 = ((k + 1 : Nat) : Int) := by omega
    refine settle 8 (by rfl) (by rfl) ?_
    simp -implicitDefEqProofs only [Int.cast_ofNat_Int, hn, go_sem, simprocAttr]
    have h1 := nest_av k
    have h2 := nest_ks k
    have h3 := nb8_s k
    have h4 : (nb8 k).length = k + 1 := by unfold nb8; simp
    have hkN : k ≤ 8 := by omega
    rcases Nat.eq_zero_or_pos k with hk0 | hk0
    · subst hk0
      repeat' first
        | with_reducible (first | refine AWP.seqA ?_ | refine AWP.seqB ?_ | refine AWP.block ?_ | refine AWP.skipN ?_ | refine AWP.skip ?_ | refine AWP.exit ?_ | refine AWP.ret ?_ | refine LoopN.succ ?_ | refine thenS_n ?_ | refine thenS_x ?_ | refine thenS_r ?_ | refine blockS_n ?_ | refine blockS_r ?_ | refine blockS_x ?_ | refine blockS_y (by decide) ?_)
        | ((with_reducible refine hK _ ?_); clear hK K) | ((with_reducible refine hKt ?_); clear hKt hKf Kt Kf) | ((with_reducible refine hKf ?_); clear hKt hKf Kt Kf) | ((with_reducible refine condP_split (fun hg => hKt ?_) (fun hg => hKf ?_)) <;> clear hKt hKf Kt Kf <;> (try simp only [hgW] at hg) <;> try (exfalso; omega))
        | ((first | (with_reducible refine guardP_split (fun hg => ?_) (fun hg => ?_)) <;> simp -implicitDefEqProofs only [hg, h1, h2, h3, h4, Int.cast_ofNat_Int, hn, go_sem, simprocAttr] <;> (try simp only [hgW] at hg) | ((first | with_reducible (first | refine AWP.seqRB [0,1,4,5,6,7,8,9,10,11,12,13,14,16,23,26,27,28,44,45,46,55,56,57,76] fun K hK => ?_ | refine AWP.lastRB [0,1,4,5,6,7,8,9,10,11,12,13,14,16,23,26,27,28,44,45,46,55,56,57,76] fun K hK => ?_ | refine AWP.seqC fun Kt Kf hKt hKf => ?_ | refine AWP.condK fun Kt Kf hKt hKf => ?_ | refine retS_ret ?_ | refine retS_end ?_ | refine retSB_ret [] ?_ | refine retSB_end [] ?_ | refine retSF_ret [] ?_ | refine retSF_end [] ?_)); simp -implicitDefEqProofs only [h1, h2, h3, h4, Int.cast_ofNat_Int, hn, go_sem, simprocAttr])) <;> try (simp (disch := omega) only [wrW]; try simp -implicitDefEqProofs only [h1, h2, h3, h4, Int.cast_ofNat_Int, hn, go_sem, simprocAttr]))
        | with_reducible refine And.intro (by first | omega | (simp only [hgW]; omega)) ?_
        | (exfalso; omega)
      refine ⟨1, ?_, by omega, by omega⟩
      have h5 : AV.agg [.int .u8 5, .int .u64 0, .sl none true 1 [], .sl none true 4 ((nestS 0).ks.map CI.av)] = (nestS 0).av := h1
      have h6 : (nestS 1).ks.map CI.av = [(nestS 0).av] := rfl
      rw [h5, h6]
      simp -implicitDefEqProofs only [Int.cast_ofNat_Int, hn, go_sem, simprocAttr]
      try rfl
    · have hz : decide (k = 0) = false := decide_eq_false (by omega)
      have hz2 : k ≠ 0 := by omega
      rw [hz] at h1 ⊢
      repeat' first
        | with_reducible (first | refine AWP.seqA ?_ | refine AWP.seqB ?_ | refine AWP.block ?_ | refine AWP.skipN ?_ | refine AWP.skip ?_ | refine AWP.exit ?_ | refine AWP.ret ?_ | refine LoopN.succ ?_ | refine thenS_n ?_ | refine thenS_x ?_ | refine thenS_r ?_ | refine blockS_n ?_ | refine blockS_r ?_ | refine blockS_x ?_ | refine blockS_y (by decide) ?_)
        | ((with_reducible refine hK _ ?_); clear hK K) | ((with_reducible refine hKt ?_); clear hKt hKf Kt Kf) | ((with_reducible refine hKf ?_); clear hKt hKf Kt Kf) | ((with_reducible refine condP_split (fun hg => hKt ?_) (fun hg => hKf ?_)) <;> clear hKt hKf Kt Kf <;> (try simp only [hgW] at hg) <;> try (exfalso; omega))
        | ((first | (with_reducible refine guardP_split (fun hg => ?_) (fun hg => ?_)) <;> simp -implicitDefEqProofs only [hg, h1, h2, h3, h4, hz2, Int.cast_ofNat_Int, hn, go_sem, simprocAttr] <;> (try simp only [hgW] at hg) | ((first | with_reducible (first | refine AWP.seqRB [0,1,4,5,6,7,8,9,10,11,12,13,14,16,23,26,27,28,44,45,46,55,56,57,76] fun K hK => ?_ | refine AWP.lastRB [0,1,4,5,6,7,8,9,10,11,12,13,14,16,23,26,27,28,44,45,46,55,56,57,76] fun K hK => ?_ | refine AWP.seqC fun Kt Kf hKt hKf => ?_ | refine AWP.condK fun Kt Kf hKt hKf => ?_ | refine retS_ret ?_ | refine retS_end ?_ | refine retSB_ret [] ?_ | refine retSB_end [] ?_ | refine retSF_ret [] ?_ | refine retSF_end [] ?_)); simp -implicitDefEqProofs only [h1, h2, h3, h4, hz2, Int.cast_ofNat_Int, hn, go_sem, simprocAttr])) <;> try (simp (disch := omega) only [wrW]; try simp -implicitDefEqProofs only [h1, h2, h3, h4, hz2, Int.cast_ofNat_Int, hn, go_sem, simprocAttr]))
        | with_reducible refine And.intro (by first | omega | (simp only [hgW]; omega)) ?_
        | (exfalso; omega)
      refine ⟨k + 1, ?_, by omega, by omega⟩
      have h5 : decide (k + 1 = 0) = false := decide_eq_false (by omega)
      rw [h2, h5, if_neg (by omega), if_neg (by omega), e2]
      simp -implicitDefEqProofs only [Int.cast_ofNat_Int, hn, go_sem, simprocAttr]
      try rfl
theorem f11_ok (what over : UInt8) : CallsP Tryd.prog 11 [.int .u8 what.toNat, .int .u8 over.toNat] (.bool true) := by
  rcases (show what.toNat % 2 = 0 ∨ what.toNat % 2 = 1 by omega) with h | h
  · exact f11_many what over h
  · exact f11_deep what over h
end Go.Proofs.YtijcpdgfbboamaaDoor
