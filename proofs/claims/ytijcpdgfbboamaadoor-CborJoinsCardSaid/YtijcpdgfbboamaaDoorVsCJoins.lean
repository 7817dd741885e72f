/- Items are written alike wherever they are written: an array's form is its head and its kids' forms. Plain law. -/
import Derived.Test.YtijcpdgfbboamaaDoorVsCRight
import Derived.Test.YtijcpdgfbboamaaDoorVsCBack
import Derived.Test.YtijcpdgfbboamaaDoorVsCArgs
open Go Go.VS
namespace Go.Proofs.YtijcpdgfbboamaaDoor
set_option linter.unusedVariables false
/-- What is written of an item is the same behind other bytes, after other items, if there is room. -/
def Shift (it it' : CI → WS → Nat × WS) : Prop := ∀ x w, (it x w).1 = 0 → ∃ l m, it x w = (0, ⟨w.b ++ l, w.items + m⟩) ∧ ∀ v : WS, v.items + m ≤ 512 → it' x v = (0, ⟨v.b ++ l, v.items + m⟩)
theorem kids_shift {it it' : CI → WS → Nat × WS} (S : Shift it it') (hg : ∀ x w, (it x w).1 = 0 → (it x w).2.items ≤ 512) (bad : CI → CI → Bool) (pair : Bool) (ks : List CI) : ∀ (n k : Nat) (w : WS), (kidsW it bad pair ks n k w).1 = 0 →
    ∃ l m, kidsW it bad pair ks n k w = (0, ⟨w.b ++ l, w.items + m⟩) ∧ ∀ v : WS, v.items + m ≤ 512 → kidsW it' bad pair ks n k v = (0, ⟨v.b ++ l, v.items + m⟩)
  | 0, k, w, _ => ⟨[], 0, by simp [kidsW], fun v _ => by simp [kidsW]⟩
  | n + 1, k, w, h => by
    simp only [kidsW] at h ⊢
    by_cases c1 : pair = true ∧ k % 2 = 0 ∧ plainS (ks.getD k default) = false
    · rw [if_pos c1] at h; cases h
    by_cases c2 : pair = true ∧ k % 2 = 0 ∧ 0 < k ∧ bad (ks.getD (k - 2) default) (ks.getD k default) = true
    · rw [if_neg c1, if_pos c2] at h; cases h
    simp only [if_neg c1, if_neg c2] at h ⊢
    by_cases he : (it (ks.getD k default) w).1 ≠ 0
    · rw [if_pos he] at h; exact absurd h he
    rw [if_neg he] at h ⊢
    have he : (it (ks.getD k default) w).1 = 0 := by simpa using he
    obtain ⟨l1, m1, e1, f1⟩ := S _ w he
    rw [e1] at h ⊢
    simp only at h ⊢
    obtain ⟨l2, m2, e2, f2⟩ := kids_shift S hg bad pair ks n (k + 1) _ h
    refine ⟨l1 ++ l2, m1 + m2, ?_, fun v hv => ?_⟩
    · rw [e2]
      simp only [List.append_assoc, Nat.add_assoc]
    · rw [f1 v (by omega)]
      simp only
      rw [if_neg (by simp), f2 ⟨v.b ++ l1, v.items + m1⟩ (by simp only; omega)]
      simp only [List.append_assoc, Nat.add_assoc]
theorem item_shift (valid : List UInt8 → Bool) (bad : CI → CI → Bool) : ∀ (d e : Nat), d ≤ e → Shift (itemW valid bad d) (itemW valid bad e) := by
  intro d e hde x w h
  have hgood := (itemW_keeps valid bad d).good x w h
  obtain ⟨r, hr⟩ : ∃ r, itemW valid bad d x w = r := ⟨_, rfl⟩
  rw [hr] at h hgood ⊢
  unfold itemW at hr
  simp only at hr
  by_cases c1 : 512 < w.items + 1
  · rw [if_pos c1] at hr; subst hr; cases h
  rw [if_neg c1] at hr
  have go : ∀ (l : List UInt8), r = (0, WS.put { w with items := w.items + 1 } l) → (∀ v : WS, v.items + 1 ≤ 512 → itemW valid bad e x v = (0, WS.put { v with items := v.items + 1 } l)) →
      ∃ l m, r = (0, ⟨w.b ++ l, w.items + m⟩) ∧ ∀ v : WS, v.items + m ≤ 512 → itemW valid bad e x v = (0, ⟨v.b ++ l, v.items + m⟩) := fun l h1 h2 => ⟨l, 1, h1, h2⟩
  by_cases c2 : x.k = 1 ∨ x.k = 2
  · rw [if_pos c2] at hr
    refine go _ hr.symm fun v hv => ?_
    unfold itemW
    simp only
    rw [if_neg (by omega), if_pos c2]
  rw [if_neg c2] at hr
  by_cases c3 : x.k = 3 ∨ x.k = 4
  · rw [if_pos c3] at hr
    by_cases c4 : x.k = 4 ∧ valid x.b = false
    · rw [if_pos c4] at hr; subst hr; cases h
    rw [if_neg c4] at hr
    refine go (hdW (x.k - 1) x.b.length ++ x.b) (by rw [← hr]; simp [WS.put]) fun v hv => ?_
    unfold itemW
    simp only
    rw [if_neg (by omega), if_neg c2, if_pos c3, if_neg c4]
    simp [WS.put]
  rw [if_neg c3] at hr
  by_cases c5 : x.k = 7 ∨ x.k = 8 ∨ x.k = 9
  · rw [if_pos c5] at hr
    refine go _ hr.symm fun v hv => ?_
    unfold itemW
    simp only
    rw [if_neg (by omega), if_neg c2, if_neg c3, if_pos c5]
  rw [if_neg c5] at hr
  by_cases c6 : x.k = 5 ∨ x.k = 6
  · rw [if_pos c6] at hr
    cases d with
    | zero => subst hr; cases h
    | succ d =>
      obtain ⟨e, rfl⟩ : ∃ e', e = e' + 1 := ⟨e - 1, by omega⟩
      simp only at hr
      by_cases c7 : x.k = 6 ∧ x.ks.length % 2 = 1
      · rw [if_pos c7] at hr; subst hr; cases h
      rw [if_neg c7] at hr
      subst hr
      obtain ⟨l, m, e1, f1⟩ := kids_shift (item_shift valid bad d e (by omega)) (itemW_keeps valid bad d).good bad (decide (x.k = 6)) x.ks x.ks.length 0 _ h
      refine ⟨hdW (x.k - 1) (if x.k = 6 then x.ks.length / 2 else x.ks.length) ++ l, m + 1, ?_, fun v hv => ?_⟩
      · rw [e1]
        simp only [WS.put, List.append_assoc]
        rw [Nat.add_assoc, Nat.add_comm 1 m]
      · have := f1 (WS.put { v with items := v.items + 1 } (hdW (x.k - 1) (if x.k = 6 then x.ks.length / 2 else x.ks.length))) (by show v.items + 1 + m ≤ 512; omega)
        unfold itemW
        simp only
        rw [if_neg (by omega), if_neg c2, if_neg c3, if_neg c5, if_pos c6, if_neg c7, this]
        simp only [WS.put, List.append_assoc]
        rw [Nat.add_assoc, Nat.add_comm 1 m]
  rw [if_neg c6] at hr
  subst hr
  cases h
/-- Forms, one behind the other. -/
def formsS (valid : List UInt8 → Bool) : List CI → List UInt8
  | [] => []
  | x :: l => (encS valid x).1 ++ formsS valid l
theorem enc_item {valid : List UInt8 → Bool} {x : CI} {c : List UInt8} (h : encS valid x = (c, 0)) : (itemW valid badO 8 x ⟨[], 0⟩).1 = 0 ∧ (itemW valid badO 8 x ⟨[], 0⟩).2.b = c := by
  unfold encS at h
  simp only at h
  split at h
  · rename_i h1
    exact absurd (congrArg Prod.snd h) h1
  · rename_i h1
    split at h
    · cases h
    · exact ⟨by simpa using h1, congrArg Prod.fst h⟩
/-- Kids of an array are written as each by itself. -/
theorem kids_forms {valid : List UInt8 → Bool} (ks : List CI) (he : ∀ x ∈ ks, (encS valid x).2 = 0) : ∀ (n k : Nat) (w : WS), k + n = ks.length → (kidsW (itemW valid badO 7) badO false ks n k w).1 = 0 →
    (kidsW (itemW valid badO 7) badO false ks n k w).2.b = w.b ++ formsS valid (ks.drop k)
  | 0, k, w, hk, _ => by
    rw [List.drop_of_length_le (by omega)]
    simp [kidsW, formsS]
  | n + 1, k, w, hk, h => by
    have hlt : k < ks.length := by omega
    have hg : ks.getD k default = ks[k] := by rw [List.getD_eq_getElem?_getD, List.getElem?_eq_getElem hlt]; rfl
    simp only [kidsW, hg] at h ⊢
    rw [if_neg (by simp), if_neg (by simp)] at h ⊢
    by_cases h0 : (itemW valid badO 7 ks[k] w).1 ≠ 0
    · rw [if_pos h0] at h; exact absurd h h0
    rw [if_neg h0] at h ⊢
    have h0 : (itemW valid badO 7 ks[k] w).1 = 0 := by simpa using h0
    rw [kids_forms ks he n (k + 1) _ (by omega) h]
    obtain ⟨l, m, e1, f1⟩ := item_shift valid badO 7 8 (by omega) ks[k] w h0
    have hm := (itemW_keeps valid badO 7).good ks[k] w h0
    rw [e1] at hm ⊢
    simp only at hm
    have e2 := f1 ⟨[], 0⟩ (by simp only; omega)
    have h3 : encS valid ks[k] = ((encS valid ks[k]).1, 0) := by rw [← he _ (List.getElem_mem hlt)]
    obtain ⟨-, h4⟩ := enc_item h3
    rw [e2] at h4
    simp only [List.nil_append] at h4
    rw [List.drop_eq_getElem_cons hlt]
    simp only [formsS, ← h4, List.append_assoc]
theorem arr_forms {valid : List UInt8 → Bool} {kn : Bool} (ks : List CI) (hl : ks.length ≤ 20) (he : ∀ x ∈ ks, (encS valid x).2 = 0) {c : List UInt8} (h : encS valid (.mk 5 0 true [] kn ks) = (c, 0)) : c = UInt8.ofNat (128 + ks.length) :: formsS valid ks := by
  obtain ⟨h1, h2⟩ := enc_item h
  rw [itemW_arr _ _ _ _ _ _ (by decide)] at h1 h2
  rw [kids_forms ks he _ 0 _ (by omega) h1] at h2
  rw [← h2]
  have : hdW 4 ks.length = [UInt8.ofNat (128 + ks.length)] := by unfold hdW; rw [if_pos (by omega)]
  simp [WS.put, this]
end Go.Proofs.YtijcpdgfbboamaaDoor
open Go Go.VS
namespace Go.Proofs.YtijcpdgfbboamaaDoor
set_option linter.unusedVariables false
set_option linter.unusedSimpArgs false
set_option maxRecDepth 20000
set_option maxHeartbeats 4000000
/-- From here on a slice in a slot is shared. -/
theorem settle {P : Program} {X : Ent} {c : Code} {Q : Exit → St → Prop} {st : St} (k : Nat) {g : Stamp} {eo : Nat} {nb : Bool} {sz : Nat} {l : List AV} (hk : st.s k = .sl (some (g, eo)) nb sz l) (hg : st.cons g = false)
    (h : AWP P X c Q (({ st with frz := updS st.frz g true } : St).put k (.sl none nb sz l))) : AWP P X c Q st := AWP.weaken h fun C a w hc => by
  obtain ⟨C', h1, t, ho, hb, hs⟩ := hc.freeze g hg
  refine ⟨C', { n := h1.n, slots := fun j => ?_, defers := h1.defers, boxes := h1.boxes, boxSome := h1.boxSome, mem := h1.mem, cons := h1.cons, made := h1.made, tg := h1.tg, tgInj := h1.tgInj, tgMade := h1.tgMade }⟩
  simp only [St.put, upd]
  split
  · rename_i hj
    subst hj
    have hr := h1.slots j
    have hk' : st.s j = .sl (some (g, eo)) nb sz l := hk
    simp only [hk'] at hr
    have hd : C'.own g ≠ .dead := fun e => by
      have := (h1.cons g).2 e
      rw [show st.cons g = false from hg] at this; cases this
    rcases hr with hr | hr | ⟨h0, b, base, off, cap, vs, g1, g2, g3, g4, g5, g6, g7⟩
    · exact absurd hr hd
    · exact .inl hr
    · exact .inr ⟨h0, b, off, cap, vs, none, g3, g4, .inr ⟨rfl, hs b base (by rw [← ho]; exact g1), g5⟩, g6⟩
  · exact h1.slots j
theorem take_min20 (l : List CI) : l.take (if (20 : Int) < (l.length : Int) then (20 : Int) else (l.length : Int)).toNat = l.take 20 := by
  split
  · rfl
  · rw [List.take_of_length_le (show l.length ≤ (l.length : Int).toNat by omega), List.take_of_length_le (by omega)]
theorem forms_append (valid : List UInt8 → Bool) : ∀ (l : List CI) (x : CI), formsS valid (l ++ [x]) = formsS valid l ++ (encS valid x).1
  | [], x => by simp [formsS]
  | y :: l, x => by simp [formsS, forms_append valid l x]
theorem forms_len (valid : List UInt8 → Bool) : ∀ (l : List CI), (∀ x ∈ l, (encS valid x).2 = 0) → (formsS valid l).length ≤ 8192 * l.length
  | [], _ => Nat.le_refl _
  | y :: l, h => by
    have h1 : (encS valid y).1.length ≤ 8192 := enc_len (show encS valid y = ((encS valid y).1, 0) by rw [← h y (by simp)])
    have h2 := forms_len valid l (fun x hx => h x (by simp [hx]))
    simp only [formsS, List.length_append, List.length_cons]
    omega
theorem zipB_sym {f : CI → CI → Bool} (hf : ∀ x y, f x y = true → f y x = true) : ∀ xs ys, zipB f xs ys = true → zipB f ys xs = true
  | [], [], _ => rfl
  | x :: xs, y :: ys, h => by
    simp only [zipB, Bool.and_eq_true] at h ⊢
    exact ⟨hf x y h.1, zipB_sym hf xs ys h.2⟩
  | [], _ :: _, h => by cases h
  | _ :: _, [], h => by cases h
theorem sameB_sym : ∀ (d : Nat) (x y : CI), sameB d x y = true → sameB d y x = true
  | 0, x, y, h => by
    simp only [sameB, headB, decide_eq_true_eq] at h ⊢
    exact ⟨h.1.symm, h.2.1.symm, h.2.2.1.symm, h.2.2.2.symm⟩
  | d + 1, x, y, h => by
    simp only [sameB, headB, Bool.and_eq_true, decide_eq_true_eq] at h ⊢
    exact ⟨⟨h.1.1.symm, h.1.2.1.symm, h.1.2.2.1.symm, h.1.2.2.2.symm⟩, zipB_sym (sameB_sym d) _ _ h.2⟩
theorem forms_drop (valid : List UInt8 → Bool) : ∀ (l : List CI) (k : Nat), (formsS valid (l.drop k)).length ≤ (formsS valid l).length
  | [], k => by simp [formsS]
  | x :: l, 0 => Nat.le_refl _
  | x :: l, k + 1 => by
    have := forms_drop valid l k
    simp only [List.drop_succ_cons, formsS, List.length_append]
    omega
theorem Wide.up1 : ∀ (d : Nat) (x : CI), Wide d x → Wide (d + 1) x
  | 0, x, h => Wide.leaf _ h
  | d + 1, x, h => ⟨h.1, fun y hy => Wide.up1 d y (h.2 y hy)⟩
theorem f12_ok (ps : List CI) (hps : ps.length ≤ 9223372036854775807) (nb : Bool) (hp : ∀ p ∈ ps, PlanD 4 p) : CallsP Tryd.prog 12 [.sl none nb 4 (ps.map CI.av)] (.bool true) := by
  obtain ⟨qs, hqs⟩ : ∃ qs, ps.take 20 = qs := ⟨_, rfl⟩
  have hql : qs.length ≤ 20 := by rw [← hqs, List.length_take]; omega
  have hq : ∀ p ∈ qs, PlanD 4 p := fun p h => hp p (by rw [← hqs] at h; exact List.mem_of_mem_take h)
  have e20 := take_min20 ps
  rw [hqs] at e20
  have hcl : 128 + (qs.length : Int) = ((128 + qs.length : Nat) : Int) := by omega
  refine CallsP.intro Tryd.func12 rfl (by show 1 ≤ 110; decide) ?_
  rintro X hX
  have hn : X.n = 110 := hX
  unfold Tryd.f12
  dsimp only
  rw [entry1]
  repeat' first
    | with_reducible (first | refine AWP.seqA ?_ | refine AWP.seqB ?_ | refine AWP.block ?_ | refine AWP.skipN ?_ | refine AWP.skip ?_ | refine AWP.exit ?_ | refine AWP.ret ?_ | refine LoopN.succ ?_ | refine thenS_n ?_ | refine thenS_x ?_ | refine thenS_r ?_ | refine blockS_n ?_ | refine blockS_r ?_ | refine blockS_x ?_ | refine blockS_y (by decide) ?_)
    | ((with_reducible refine hK _ ?_); clear hK K) | ((with_reducible refine hKt ?_); clear hKt hKf Kt Kf) | ((with_reducible refine hKf ?_); clear hKt hKf Kt Kf) | ((with_reducible refine condP_split (fun hg => hKt ?_) (fun hg => hKf ?_)) <;> clear hKt hKf Kt Kf <;> (try simp only [hgW] at hg) <;> try (exfalso; omega))
    | ((first | (with_reducible refine guardP_split (fun hg => ?_) (fun hg => ?_)) <;> simp -implicitDefEqProofs only [hg, e20, hcl, Int.cast_ofNat_Int, hn, go_sem, simprocAttr] <;> (try simp only [hgW] at hg) | ((first | with_reducible (first | refine AWP.seqRB [0,2,3,4,6,7,8,9,10,11,12,14,15,16,17,19,31,32,33,34,45,68,78,79,80,81,97] fun K hK => ?_ | refine AWP.lastRB [0,2,3,4,6,7,8,9,10,11,12,14,15,16,17,19,31,32,33,34,45,68,78,79,80,81,97] fun K hK => ?_ | refine AWP.seqC fun Kt Kf hKt hKf => ?_ | refine AWP.condK fun Kt Kf hKt hKf => ?_ | refine retS_ret ?_ | refine retS_end ?_ | refine retSB_ret [] ?_ | refine retSB_end [] ?_ | refine retSF_ret [] ?_ | refine retSF_end [] ?_) | refine callE_P (f17_ok) ?_ | refine callP_intro2 (f17_ok) ?_ | refine callE_X (f17_ok) ?_); simp -implicitDefEqProofs only [e20, hcl, Int.cast_ofNat_Int, hn, go_sem, simprocAttr])) <;> try (simp (disch := omega) only [wrW]; try simp -implicitDefEqProofs only [e20, hcl, Int.cast_ofNat_Int, hn, go_sem, simprocAttr]))
    | with_reducible refine And.intro (by first | omega | (simp only [hgW]; omega)) ?_
    | (exfalso; omega)
  refine AWP.adoptB 3 3 (0, 999) 0 4 (by rfl) (by rfl) ?_
  refine AWP.loopX [2, 3, 4, 31, 32, 33] [6, 7] (fun k : Nat => St.mk (lk [(2, .bool false), (3, .ptr 3 0), (4, .sl (some ((0, 30), 0)) false 1 (.int .u8 ((128 + qs.length : Nat) : Int) :: (formsS Go.Lib.validD ((qs.take k).map (madeS 3))).map u8)), (31, .sl none nb 4 (qs.map CI.av)), (32, .int .i64 (qs.length : Int)), (33, .int .i64 (k : Int))])
      (lkB [(3, [.int .u8 5, .int .u64 0, .sl none true 1 [], .sl (some ((0, 999), 0)) ((qs.take k).map (madeS 3)).isEmpty 4 (((qs.take k).map (madeS 3)).map CI.av)])]) (hasS []) (hasS []) (hasN []) (lkR []))
    (fun k => k ≤ qs.length ∧ ∀ x ∈ (qs.take k).map (madeS 3), (encS Go.Lib.validD x).2 = 0) (fun k => qs.length - k) 0 ?_ ⟨Nat.zero_le _, fun x hx => by cases hx⟩ ?_
  · simp -implicitDefEqProofs only [Int.cast_ofNat_Int, hn, go_sem, simprocAttr]
    try rfl
  rintro k ⟨hk, hx⟩
  by_cases hkn : k = qs.length
  · subst hkn
    rw [List.take_of_length_le (Nat.le_refl _)] at hx
    rw [List.take_of_length_le (Nat.le_refl _)]
    obtain ⟨ks, hks⟩ : ∃ ks, qs.map (madeS 3) = ks := ⟨_, rfl⟩
    rw [hks] at hx ⊢
    have hkl : ks.length = qs.length := by rw [← hks, List.length_map]
    have hkr : ∀ x ∈ ks, Right Go.Lib.validD 4 x ∧ (∀ e, Fit e x) ∧ Wide 7 x ∧ ∀ e, sameB e (canS x) x = true := by
      intro x hxx
      rw [← hks] at hxx
      obtain ⟨p, hpp, rfl⟩ := List.mem_map.1 hxx
      exact ⟨made_right 3 p, fun e => made_fit e 3 p (hq p hpp), made_wide 3 p 6 (by decide), made_same 3 p⟩
    obtain ⟨arr, harr⟩ : ∃ arr, CI.mk 5 0 true [] ks.isEmpty ks = arr := ⟨_, rfl⟩
    have hrA : Right Go.Lib.validD 8 arr := by
      subst harr
      exact ⟨by show 1 ≤ 5; decide, by show 5 ≤ 9; decide, fun h => (by cases h), fun h => (by cases h), fun _ y hy => (hkr y hy).1.up.up.up⟩
    have hfA : Fit 8 arr := by
      subst harr
      exact ⟨⟨by show 5 < 256; decide, by show 0 < _; decide, Nat.zero_le _, by show ks.length ≤ 100000; omega, fun _ => rfl⟩, fun y hy => (hkr y hy).2.1 7⟩
    have c25 := f25_ok validI arr hfA
    have he := enc_writes hrA
    have hforms : ∀ {c}, encS Go.Lib.validD arr = (c, 0) → c = UInt8.ofNat (128 + ks.length) :: formsS Go.Lib.validD ks := by
      subst harr
      exact fun h => arr_forms ks (by omega) hx h
    obtain ⟨c, er, hc⟩ : ∃ c er, encS Go.Lib.validD arr = (c, er) := ⟨_, _, rfl⟩
    rw [hc] at c25 he
    simp only at c25 he
    rw [← harr, av_mk'] at c25
    simp only [bytesAV] at c25
    refine settle 4 (g := (0, 30)) (eo := 0) (by rfl) (by rfl) ?_
    simp -implicitDefEqProofs only [Int.cast_ofNat_Int, hn, go_sem, simprocAttr]
    by_cases h0 : er = 0
    · subst h0
      have hcn := enc_len hc
      have hcc := hforms hc
      have hce := enc_ne hc
      have ecs : c.map u8 = .int .u8 ((128 + qs.length : Nat) : Int) :: (formsS Go.Lib.validD ks).map u8 := by
        rw [hcc, List.map_cons]
        show AV.int _ _ :: _ = _
        rw [toN8 (by omega), hkl]
      have hfs : (formsS Go.Lib.validD ks).length + 1 = c.length := by rw [hcc, List.length_cons]
      clear hforms hfA hrA
      repeat' first
        | with_reducible (first | refine AWP.seqA ?_ | refine AWP.seqB ?_ | refine AWP.block ?_ | refine AWP.skipN ?_ | refine AWP.skip ?_ | refine AWP.exit ?_ | refine AWP.ret ?_ | refine LoopN.succ ?_ | refine thenS_n ?_ | refine thenS_x ?_ | refine thenS_r ?_ | refine blockS_n ?_ | refine blockS_r ?_ | refine blockS_x ?_ | refine blockS_y (by decide) ?_)
        | ((with_reducible refine hK _ ?_); clear hK K) | ((with_reducible refine hKt ?_); clear hKt hKf Kt Kf) | ((with_reducible refine hKf ?_); clear hKt hKf Kt Kf) | ((with_reducible refine condP_split (fun hg => hKt ?_) (fun hg => hKf ?_)) <;> clear hKt hKf Kt Kf <;> (try simp only [hgW] at hg) <;> try (exfalso; omega))
        | ((first | (with_reducible refine guardP_split (fun hg => ?_) (fun hg => ?_)) <;> simp -implicitDefEqProofs only [hg, Int.cast_ofNat_Int, hn, go_sem, simprocAttr] <;> (try simp only [hgW] at hg) | ((first | with_reducible (first | refine AWP.seqRB [0,2,3,4,6,7,8,9,10,11,12,14,15,16,17,19,31,32,33,34,45,68,78,79,80,81,97] fun K hK => ?_ | refine AWP.lastRB [0,2,3,4,6,7,8,9,10,11,12,14,15,16,17,19,31,32,33,34,45,68,78,79,80,81,97] fun K hK => ?_ | refine AWP.seqC fun Kt Kf hKt hKf => ?_ | refine AWP.condK fun Kt Kf hKt hKf => ?_ | refine retS_ret ?_ | refine retS_end ?_ | refine retSB_ret [] ?_ | refine retSB_end [] ?_ | refine retSF_ret [] ?_ | refine retSF_end [] ?_) | refine callE_P (c25) ?_ | refine callP_intro2 (c25) ?_ | refine callE_X (c25) ?_); simp -implicitDefEqProofs only [Int.cast_ofNat_Int, hn, go_sem, simprocAttr])) <;> try (simp (disch := omega) only [wrW]; try simp -implicitDefEqProofs only [Int.cast_ofNat_Int, hn, go_sem, simprocAttr]))
        | with_reducible refine And.intro (by first | omega | (simp only [hgW]; omega)) ?_
        | (exfalso; omega)
      refine AWP.loopX [2, 4, 10, 12, 78, 79, 80] [3, 14, 15] (fun k : Nat => St.mk (lk [(2, .bool false), (4, .sl none false 1 (c.map u8)), (10, .sl none c.isEmpty 1 (c.map u8)), (12, .sl none false 1 ((formsS Go.Lib.validD (ks.drop k)).map u8)), (78, .sl none ks.isEmpty 4 (ks.map CI.av)), (79, .int .i64 (ks.length : Int)), (80, .int .i64 (k : Int))])
          (lkB []) (hasS []) (hasS []) (hasN []) (lkR [])) (fun k => k ≤ ks.length) (fun k => ks.length - k) 0 ?_ (Nat.zero_le _) ?_
      · simp -implicitDefEqProofs only [ecs, Int.cast_ofNat_Int, hn, go_sem, simprocAttr]
        try rfl
      rintro j hj
      by_cases hjn : j = ks.length
      · rw [List.drop_of_length_le (by omega)]
        simp only [formsS]
        subst hjn
        repeat' first
          | with_reducible (first | refine AWP.seqA ?_ | refine AWP.seqB ?_ | refine AWP.block ?_ | refine AWP.skipN ?_ | refine AWP.skip ?_ | refine AWP.exit ?_ | refine AWP.ret ?_ | refine LoopN.succ ?_ | refine thenS_n ?_ | refine thenS_x ?_ | refine thenS_r ?_ | refine blockS_n ?_ | refine blockS_r ?_ | refine blockS_x ?_ | refine blockS_y (by decide) ?_)
          | ((with_reducible refine hK _ ?_); clear hK K) | ((with_reducible refine hKt ?_); clear hKt hKf Kt Kf) | ((with_reducible refine hKf ?_); clear hKt hKf Kt Kf) | ((with_reducible refine condP_split (fun hg => hKt ?_) (fun hg => hKf ?_)) <;> clear hKt hKf Kt Kf <;> (try simp only [hgW] at hg) <;> try (exfalso; omega))
          | ((first | (with_reducible refine guardP_split (fun hg => ?_) (fun hg => ?_)) <;> simp -implicitDefEqProofs only [hg, Int.cast_ofNat_Int, hn, go_sem, simprocAttr] <;> (try simp only [hgW] at hg) | ((first | with_reducible (first | refine AWP.seqRB [0,2,3,4,6,7,8,9,10,11,12,14,15,16,17,19,31,32,33,34,45,68,78,79,80,81,97] fun K hK => ?_ | refine AWP.lastRB [0,2,3,4,6,7,8,9,10,11,12,14,15,16,17,19,31,32,33,34,45,68,78,79,80,81,97] fun K hK => ?_ | refine AWP.seqC fun Kt Kf hKt hKf => ?_ | refine AWP.condK fun Kt Kf hKt hKf => ?_ | refine retS_ret ?_ | refine retS_end ?_ | refine retSB_ret [] ?_ | refine retSB_end [] ?_ | refine retSF_ret [] ?_ | refine retSF_end [] ?_)); simp -implicitDefEqProofs only [Int.cast_ofNat_Int, hn, go_sem, simprocAttr])) <;> try (simp (disch := omega) only [wrW]; try simp -implicitDefEqProofs only [Int.cast_ofNat_Int, hn, go_sem, simprocAttr]))
          | with_reducible refine And.intro (by first | omega | (simp only [hgW]; omega)) ?_
          | (exfalso; omega)
      · have hlt : j < ks.length := by omega
        have hgx : ks.getD j default = ks[j] := by rw [List.getD_eq_getElem?_getD, List.getElem?_eq_getElem hlt]; rfl
        have hm := List.getElem_mem hlt
        have hdl := forms_drop Go.Lib.validD ks j
        rw [List.drop_eq_getElem_cons hlt] at hdl ⊢
        simp only [formsS] at hdl ⊢
        have hxx := hkr _ hm
        have hex := hx _ hm
        generalize ks[j] = x at *
        obtain ⟨-, hfx, hwx, hsx⟩ := hxx
        obtain ⟨cx, ex, hcx⟩ : ∃ cx ex, encS Go.Lib.validD x = (cx, ex) := ⟨_, _, rfl⟩
        rw [hcx] at hex hdl ⊢
        simp only at hex hdl ⊢
        subst hex
        obtain ⟨rest, hrest⟩ : ∃ rest, formsS Go.Lib.validD (ks.drop (j + 1)) = rest := ⟨_, rfl⟩
        rw [hrest] at hdl ⊢
        have hd := dec_enc (hfx 8) hcx rest (by omega)
        have c26 := f26_ok valid_ok false (cx ++ rest) (fun h => by cases h)
        have hwc := dec_wide2 Go.Lib.validD (cx ++ rest)
        rw [hd] at c26 hwc
        have c27 := f27_all 8 x (canS x) (Wide.up1 7 x hwx) hwc
        rw [sameB_sym 8 _ _ (hsx 8)] at c27
        generalize canS x = y at *
        obtain ⟨xk, xn, xbn, xb, xkn, xks⟩ := x
        obtain ⟨yk, yn, ybn, yb, ykn, yks⟩ := y
        simp only [av_mk', restAV] at c26 c27
        repeat' first
          | with_reducible (first | refine AWP.seqA ?_ | refine AWP.seqB ?_ | refine AWP.block ?_ | refine AWP.skipN ?_ | refine AWP.skip ?_ | refine AWP.exit ?_ | refine AWP.ret ?_ | refine LoopN.succ ?_ | refine thenS_n ?_ | refine thenS_x ?_ | refine thenS_r ?_ | refine blockS_n ?_ | refine blockS_r ?_ | refine blockS_x ?_ | refine blockS_y (by decide) ?_)
          | ((with_reducible refine hK _ ?_); clear hK K) | ((with_reducible refine hKt ?_); clear hKt hKf Kt Kf) | ((with_reducible refine hKf ?_); clear hKt hKf Kt Kf) | ((with_reducible refine condP_split (fun hg => hKt ?_) (fun hg => hKf ?_)) <;> clear hKt hKf Kt Kf <;> (try simp only [hgW] at hg) <;> try (exfalso; omega))
          | ((first | (with_reducible refine guardP_split (fun hg => ?_) (fun hg => ?_)) <;> simp -implicitDefEqProofs only [hg, hgx, av_mk', Int.cast_ofNat_Int, hn, go_sem, simprocAttr] <;> (try simp only [hgW] at hg) | ((first | with_reducible (first | refine AWP.seqRB [0,2,3,4,6,7,8,9,10,11,12,14,15,16,17,19,31,32,33,34,45,68,78,79,80,81,97] fun K hK => ?_ | refine AWP.lastRB [0,2,3,4,6,7,8,9,10,11,12,14,15,16,17,19,31,32,33,34,45,68,78,79,80,81,97] fun K hK => ?_ | refine AWP.seqC fun Kt Kf hKt hKf => ?_ | refine AWP.condK fun Kt Kf hKt hKf => ?_ | refine retS_ret ?_ | refine retS_end ?_ | refine retSB_ret [] ?_ | refine retSB_end [] ?_ | refine retSF_ret [] ?_ | refine retSF_end [] ?_) | refine callE_P (c26) ?_ | refine callP_intro2 (c26) ?_ | refine callE_X (c26) ?_ | refine callE_P (c27) ?_ | refine callP_intro2 (c27) ?_ | refine callE_X (c27) ?_); simp -implicitDefEqProofs only [hgx, av_mk', Int.cast_ofNat_Int, hn, go_sem, simprocAttr])) <;> try (simp (disch := omega) only [wrW]; try simp -implicitDefEqProofs only [hgx, av_mk', Int.cast_ofNat_Int, hn, go_sem, simprocAttr]))
          | with_reducible refine And.intro (by first | omega | (simp only [hgW]; omega)) ?_
          | (exfalso; omega)
        refine ⟨j + 1, ?_, by omega, by omega⟩
        have e2 : (j : Int) + 1 = ((j + 1 : Nat) : Int) := by omega
        rw [e2, hrest]
        simp -implicitDefEqProofs only [Int.cast_ofNat_Int, hn, go_sem, simprocAttr]
        try rfl
    · have he : er = 14 ∨ er = 3 := he.resolve_left h0
      rcases he with rfl | rfl
      · skip
        repeat' first
          | with_reducible (first | refine AWP.seqA ?_ | refine AWP.seqB ?_ | refine AWP.block ?_ | refine AWP.skipN ?_ | refine AWP.skip ?_ | refine AWP.exit ?_ | refine AWP.ret ?_ | refine LoopN.succ ?_ | refine thenS_n ?_ | refine thenS_x ?_ | refine thenS_r ?_ | refine blockS_n ?_ | refine blockS_r ?_ | refine blockS_x ?_ | refine blockS_y (by decide) ?_)
          | ((with_reducible refine hK _ ?_); clear hK K) | ((with_reducible refine hKt ?_); clear hKt hKf Kt Kf) | ((with_reducible refine hKf ?_); clear hKt hKf Kt Kf) | ((with_reducible refine condP_split (fun hg => hKt ?_) (fun hg => hKf ?_)) <;> clear hKt hKf Kt Kf <;> (try simp only [hgW] at hg) <;> try (exfalso; omega))
          | ((first | (with_reducible refine guardP_split (fun hg => ?_) (fun hg => ?_)) <;> simp -implicitDefEqProofs only [hg, Int.cast_ofNat_Int, hn, go_sem, simprocAttr] <;> (try simp only [hgW] at hg) | ((first | with_reducible (first | refine AWP.seqRB [0,2,3,4,6,7,8,9,10,11,12,14,15,16,17,19,31,32,33,34,45,68,78,79,80,81,97] fun K hK => ?_ | refine AWP.lastRB [0,2,3,4,6,7,8,9,10,11,12,14,15,16,17,19,31,32,33,34,45,68,78,79,80,81,97] fun K hK => ?_ | refine AWP.seqC fun Kt Kf hKt hKf => ?_ | refine AWP.condK fun Kt Kf hKt hKf => ?_ | refine retS_ret ?_ | refine retS_end ?_ | refine retSB_ret [] ?_ | refine retSB_end [] ?_ | refine retSF_ret [] ?_ | refine retSF_end [] ?_) | refine callE_P (c25) ?_ | refine callP_intro2 (c25) ?_ | refine callE_X (c25) ?_); simp -implicitDefEqProofs only [Int.cast_ofNat_Int, hn, go_sem, simprocAttr])) <;> try (simp (disch := omega) only [wrW]; try simp -implicitDefEqProofs only [Int.cast_ofNat_Int, hn, go_sem, simprocAttr]))
          | with_reducible refine And.intro (by first | omega | (simp only [hgW]; omega)) ?_
          | (exfalso; omega)
      · skip
        repeat' first
          | with_reducible (first | refine AWP.seqA ?_ | refine AWP.seqB ?_ | refine AWP.block ?_ | refine AWP.skipN ?_ | refine AWP.skip ?_ | refine AWP.exit ?_ | refine AWP.ret ?_ | refine LoopN.succ ?_ | refine thenS_n ?_ | refine thenS_x ?_ | refine thenS_r ?_ | refine blockS_n ?_ | refine blockS_r ?_ | refine blockS_x ?_ | refine blockS_y (by decide) ?_)
          | ((with_reducible refine hK _ ?_); clear hK K) | ((with_reducible refine hKt ?_); clear hKt hKf Kt Kf) | ((with_reducible refine hKf ?_); clear hKt hKf Kt Kf) | ((with_reducible refine condP_split (fun hg => hKt ?_) (fun hg => hKf ?_)) <;> clear hKt hKf Kt Kf <;> (try simp only [hgW] at hg) <;> try (exfalso; omega))
          | ((first | (with_reducible refine guardP_split (fun hg => ?_) (fun hg => ?_)) <;> simp -implicitDefEqProofs only [hg, Int.cast_ofNat_Int, hn, go_sem, simprocAttr] <;> (try simp only [hgW] at hg) | ((first | with_reducible (first | refine AWP.seqRB [0,2,3,4,6,7,8,9,10,11,12,14,15,16,17,19,31,32,33,34,45,68,78,79,80,81,97] fun K hK => ?_ | refine AWP.lastRB [0,2,3,4,6,7,8,9,10,11,12,14,15,16,17,19,31,32,33,34,45,68,78,79,80,81,97] fun K hK => ?_ | refine AWP.seqC fun Kt Kf hKt hKf => ?_ | refine AWP.condK fun Kt Kf hKt hKf => ?_ | refine retS_ret ?_ | refine retS_end ?_ | refine retSB_ret [] ?_ | refine retSB_end [] ?_ | refine retSF_ret [] ?_ | refine retSF_end [] ?_) | refine callE_P (c25) ?_ | refine callP_intro2 (c25) ?_ | refine callE_X (c25) ?_); simp -implicitDefEqProofs only [Int.cast_ofNat_Int, hn, go_sem, simprocAttr])) <;> try (simp (disch := omega) only [wrW]; try simp -implicitDefEqProofs only [Int.cast_ofNat_Int, hn, go_sem, simprocAttr]))
          | with_reducible refine And.intro (by first | omega | (simp only [hgW]; omega)) ?_
          | (exfalso; omega)
  · have hlt : k < qs.length := by omega
    obtain ⟨y, hy⟩ : ∃ y, qs.getD k default = y := ⟨_, rfl⟩
    have hy' : qs[k]? = some y := by rw [← hy, List.getD_eq_getElem?_getD, List.getElem?_eq_getElem hlt]; rfl
    have hyq := hq y (List.mem_of_getElem? hy')
    have c20 := made_ok 3 (by decide) y hyq
    have hf := made_fit 8 3 y hyq
    have hr : Right Go.Lib.validD 8 (madeS 3 y) := (made_right 3 y).up.up.up.up
    have c25 := f25_ok validI (madeS 3 y) hf
    have he := enc_writes hr
    have ht : (qs.take (k + 1)).map (madeS 3) = (qs.take k).map (madeS 3) ++ [madeS 3 y] := by
      rw [List.take_add_one, hy', List.map_append]; rfl
    have hfl := forms_len Go.Lib.validD ((qs.take k).map (madeS 3)) hx
    have hol : ((qs.take k).map (madeS 3)).length ≤ 20 := by rw [List.length_map, List.length_take]; omega
    have hfa := forms_append Go.Lib.validD ((qs.take k).map (madeS 3)) (madeS 3 y)
    have e2 : (k : Int) + 1 = ((k + 1 : Nat) : Int) := by omega
    have next : (encS Go.Lib.validD (madeS 3 y)).2 = 0 → ∀ x ∈ (qs.take (k + 1)).map (madeS 3), (encS Go.Lib.validD x).2 = 0 := by
      intro h x hxx
      rw [ht] at hxx
      rcases List.mem_append.1 hxx with hxx | hxx
      · exact hx x hxx
      · rw [List.mem_singleton] at hxx; subst hxx; exact h
    rw [← ht] at hfa
    obtain ⟨c, er, hc⟩ : ∃ c er, encS Go.Lib.validD (madeS 3 y) = (c, er) := ⟨_, _, rfl⟩
    rw [hc] at c25 he hfa next
    simp only at c25 he hfa next
    by_cases h0 : er = 0
    · subst h0
      have next := next rfl
      have hcn := enc_len hc
      have hce := enc_ne hc
      generalize hout : (qs.take k).map (madeS 3) = out at *
      generalize hz : madeS 3 y = z at *
      obtain ⟨zk, zn, zbn, zb, zkn, zks⟩ := z
      obtain ⟨yk, yn, ybn, yb, ykn, yks⟩ := y
      simp only [av_mk', bytesAV] at c20 c25
      generalize formsS Go.Lib.validD out = fs at *
      repeat' first
        | with_reducible (first | refine AWP.seqA ?_ | refine AWP.seqB ?_ | refine AWP.block ?_ | refine AWP.skipN ?_ | refine AWP.skip ?_ | refine AWP.exit ?_ | refine AWP.ret ?_ | refine LoopN.succ ?_ | refine thenS_n ?_ | refine thenS_x ?_ | refine thenS_r ?_ | refine blockS_n ?_ | refine blockS_r ?_ | refine blockS_x ?_ | refine blockS_y (by decide) ?_)
        | ((with_reducible refine hK _ ?_); clear hK K) | ((with_reducible refine hKt ?_); clear hKt hKf Kt Kf) | ((with_reducible refine hKf ?_); clear hKt hKf Kt Kf) | ((with_reducible refine condP_split (fun hg => hKt ?_) (fun hg => hKf ?_)) <;> clear hKt hKf Kt Kf <;> (try simp only [hgW] at hg) <;> try (exfalso; omega))
        | ((first | (with_reducible refine guardP_split (fun hg => ?_) (fun hg => ?_)) <;> simp -implicitDefEqProofs only [hg, hy, av_mk', Int.cast_ofNat_Int, hn, go_sem, simprocAttr] <;> (try simp only [hgW] at hg) | ((first | with_reducible (first | refine AWP.seqRB [0,2,3,4,6,7,8,9,10,11,12,14,15,16,17,19,31,32,33,34,45,68,78,79,80,81,97] fun K hK => ?_ | refine AWP.lastRB [0,2,3,4,6,7,8,9,10,11,12,14,15,16,17,19,31,32,33,34,45,68,78,79,80,81,97] fun K hK => ?_ | refine AWP.seqC fun Kt Kf hKt hKf => ?_ | refine AWP.condK fun Kt Kf hKt hKf => ?_ | refine retS_ret ?_ | refine retS_end ?_ | refine retSB_ret [] ?_ | refine retSB_end [] ?_ | refine retSF_ret [] ?_ | refine retSF_end [] ?_) | refine callE_P (c20) ?_ | refine callP_intro2 (c20) ?_ | refine callE_X (c20) ?_ | refine callE_P (c25) ?_ | refine callP_intro2 (c25) ?_ | refine callE_X (c25) ?_); simp -implicitDefEqProofs only [hy, av_mk', Int.cast_ofNat_Int, hn, go_sem, simprocAttr])) <;> try (simp (disch := omega) only [wrW]; try simp -implicitDefEqProofs only [hy, av_mk', Int.cast_ofNat_Int, hn, go_sem, simprocAttr]))
        | with_reducible refine And.intro (by first | omega | (simp only [hgW]; omega)) ?_
        | (exfalso; omega)
      refine ⟨k + 1, ?_, ⟨by omega, next⟩, by omega⟩
      have e4 : out.map CI.av ++ [AV.agg [.int .u8 (zk : Int), .int .u64 (zn : Int), .sl none zbn 1 (zb.map u8), .sl none zkn 4 (zks.map CI.av)]] = (out ++ [CI.mk zk zn zbn zb zkn zks]).map CI.av := by
        rw [List.map_append, List.map_cons, List.map_nil, av_mk']
      have e5 : (out ++ [CI.mk zk zn zbn zb zkn zks]).isEmpty = false := by simp
      have e6 : fs.map u8 ++ c.map u8 = (fs ++ c).map u8 := List.map_append.symm
      rw [e2, hfa, ht, e4]
      simp -implicitDefEqProofs only [e5, e6, Int.cast_ofNat_Int, hn, go_sem, simprocAttr]
      try rfl
    · have he : er = 14 ∨ er = 3 := he.resolve_left h0
      generalize hz : madeS 3 y = z at *
      obtain ⟨zk, zn, zbn, zb, zkn, zks⟩ := z
      obtain ⟨yk, yn, ybn, yb, ykn, yks⟩ := y
      simp only [av_mk', bytesAV] at c20 c25
      rcases he with rfl | rfl
      · skip
        repeat' first
          | with_reducible (first | refine AWP.seqA ?_ | refine AWP.seqB ?_ | refine AWP.block ?_ | refine AWP.skipN ?_ | refine AWP.skip ?_ | refine AWP.exit ?_ | refine AWP.ret ?_ | refine LoopN.succ ?_ | refine thenS_n ?_ | refine thenS_x ?_ | refine thenS_r ?_ | refine blockS_n ?_ | refine blockS_r ?_ | refine blockS_x ?_ | refine blockS_y (by decide) ?_)
          | ((with_reducible refine hK _ ?_); clear hK K) | ((with_reducible refine hKt ?_); clear hKt hKf Kt Kf) | ((with_reducible refine hKf ?_); clear hKt hKf Kt Kf) | ((with_reducible refine condP_split (fun hg => hKt ?_) (fun hg => hKf ?_)) <;> clear hKt hKf Kt Kf <;> (try simp only [hgW] at hg) <;> try (exfalso; omega))
          | ((first | (with_reducible refine guardP_split (fun hg => ?_) (fun hg => ?_)) <;> simp -implicitDefEqProofs only [hg, hy, av_mk', Int.cast_ofNat_Int, hn, go_sem, simprocAttr] <;> (try simp only [hgW] at hg) | ((first | with_reducible (first | refine AWP.seqRB [0,2,3,4,6,7,8,9,10,11,12,14,15,16,17,19,31,32,33,34,45,68,78,79,80,81,97] fun K hK => ?_ | refine AWP.lastRB [0,2,3,4,6,7,8,9,10,11,12,14,15,16,17,19,31,32,33,34,45,68,78,79,80,81,97] fun K hK => ?_ | refine AWP.seqC fun Kt Kf hKt hKf => ?_ | refine AWP.condK fun Kt Kf hKt hKf => ?_ | refine retS_ret ?_ | refine retS_end ?_ | refine retSB_ret [] ?_ | refine retSB_end [] ?_ | refine retSF_ret [] ?_ | refine retSF_end [] ?_) | refine callE_P (c20) ?_ | refine callP_intro2 (c20) ?_ | refine callE_X (c20) ?_ | refine callE_P (c25) ?_ | refine callP_intro2 (c25) ?_ | refine callE_X (c25) ?_); simp -implicitDefEqProofs only [hy, av_mk', Int.cast_ofNat_Int, hn, go_sem, simprocAttr])) <;> try (simp (disch := omega) only [wrW]; try simp -implicitDefEqProofs only [hy, av_mk', Int.cast_ofNat_Int, hn, go_sem, simprocAttr]))
          | with_reducible refine And.intro (by first | omega | (simp only [hgW]; omega)) ?_
          | (exfalso; omega)
      · skip
        repeat' first
          | with_reducible (first | refine AWP.seqA ?_ | refine AWP.seqB ?_ | refine AWP.block ?_ | refine AWP.skipN ?_ | refine AWP.skip ?_ | refine AWP.exit ?_ | refine AWP.ret ?_ | refine LoopN.succ ?_ | refine thenS_n ?_ | refine thenS_x ?_ | refine thenS_r ?_ | refine blockS_n ?_ | refine blockS_r ?_ | refine blockS_x ?_ | refine blockS_y (by decide) ?_)
          | ((with_reducible refine hK _ ?_); clear hK K) | ((with_reducible refine hKt ?_); clear hKt hKf Kt Kf) | ((with_reducible refine hKf ?_); clear hKt hKf Kt Kf) | ((with_reducible refine condP_split (fun hg => hKt ?_) (fun hg => hKf ?_)) <;> clear hKt hKf Kt Kf <;> (try simp only [hgW] at hg) <;> try (exfalso; omega))
          | ((first | (with_reducible refine guardP_split (fun hg => ?_) (fun hg => ?_)) <;> simp -implicitDefEqProofs only [hg, hy, av_mk', Int.cast_ofNat_Int, hn, go_sem, simprocAttr] <;> (try simp only [hgW] at hg) | ((first | with_reducible (first | refine AWP.seqRB [0,2,3,4,6,7,8,9,10,11,12,14,15,16,17,19,31,32,33,34,45,68,78,79,80,81,97] fun K hK => ?_ | refine AWP.lastRB [0,2,3,4,6,7,8,9,10,11,12,14,15,16,17,19,31,32,33,34,45,68,78,79,80,81,97] fun K hK => ?_ | refine AWP.seqC fun Kt Kf hKt hKf => ?_ | refine AWP.condK fun Kt Kf hKt hKf => ?_ | refine retS_ret ?_ | refine retS_end ?_ | refine retSB_ret [] ?_ | refine retSB_end [] ?_ | refine retSF_ret [] ?_ | refine retSF_end [] ?_) | refine callE_P (c20) ?_ | refine callP_intro2 (c20) ?_ | refine callE_X (c20) ?_ | refine callE_P (c25) ?_ | refine callP_intro2 (c25) ?_ | refine callE_X (c25) ?_); simp -implicitDefEqProofs only [hy, av_mk', Int.cast_ofNat_Int, hn, go_sem, simprocAttr])) <;> try (simp (disch := omega) only [wrW]; try simp -implicitDefEqProofs only [hy, av_mk', Int.cast_ofNat_Int, hn, go_sem, simprocAttr]))
          | with_reducible refine And.intro (by first | omega | (simp only [hgW]; omega)) ?_
          | (exfalso; omega)
theorem plans_arg {f : Nat} {a : AV} (h : argOk Tryd.prog f 26 a) : ∃ (nb : Bool) (ps : List CI), a = .sl none nb 4 (ps.map CI.av) ∧ ps.length ≤ 9223372036854775807 ∧ ∀ p ∈ ps, ∀ d, PlanD d p := by
  obtain ⟨m, nb, l, rfl, rfl, hl, hll, hx⟩ := argOk_slice Tryd.underlying26 h
  obtain ⟨ps, rfl, hq⟩ := list_ci l fun x hx' => plan_arg (hx x hx')
  rw [avs_map] at *
  rw [List.length_map] at hll
  exact ⟨nb, ps, by rw [show Tryd.prog.cellsOf 28 = 4 by kernel_rfl], hll, hq⟩
end Go.Proofs.YtijcpdgfbboamaaDoor
