/- What is written is read as what was written, whatever stands behind: plain law, no program in sight. -/
import Derived.Test.YtijcpdgfbboamaaDoorVsCOneL
open Go Go.VS
namespace Go.Proofs.YtijcpdgfbboamaaDoor
set_option linter.unusedVariables false
theorem be_nbs (n : Nat) : ∀ k, be (nbs n k) = n % 256 ^ k
  | 0 => by simp [nbs, be, Nat.mod_one]
  | k + 1 => by
    have h := @Nat.mod_mul (256 ^ k) 256 n
    rw [nbs, be_cons', nbs_len, be_nbs n k, UInt8.toNat_ofNat', show 256 ^ (k + 1) = 256 ^ k * 256 from Nat.pow_succ .., h]
    show n / 256 ^ k % 256 * 256 ^ k + n % 256 ^ k = _
    rw [Nat.mul_comm, Nat.add_comm]
theorem headS_of (k n : Nat) (hk : k < 7) (hn : n < 18446744073709551616) (rest : List UInt8) (items : Nat) : headS ⟨hdW k n ++ rest, items, 0⟩ = (k, n, ⟨rest, items, 0⟩) := by
  unfold hdW
  by_cases h24 : n < 24
  · rw [if_pos h24]
    have hc : (UInt8.ofNat (32 * k + n)).toNat = 32 * k + n := by rw [UInt8.toNat_ofNat']; simp only [Nat.reducePow]; omega
    unfold headS
    rw [if_neg (by simp)]
    simp only [List.cons_append, List.nil_append, List.getD_cons_zero, List.drop_succ_cons, List.drop_zero, hc]
    rw [if_pos (by omega), show (32 * k + n) / 32 = k by omega, show (32 * k + n) % 32 = n by omega]
  · rw [if_neg h24]
    obtain ⟨z, hz⟩ : ∃ z, sizeN n = z := ⟨_, rfl⟩
    have hs : (z = 0 ∧ n < 256) ∨ (z = 1 ∧ 256 ≤ n ∧ n < 65536) ∨ (z = 2 ∧ 65536 ≤ n ∧ n < 4294967296) ∨ (z = 3 ∧ 4294967296 ≤ n) := by
      unfold sizeN at hz
      (repeat' split at hz) <;> omega
    rw [hz]
    have hc : (UInt8.ofNat (32 * k + 24 + z)).toNat = 32 * k + 24 + z := by rw [UInt8.toNat_ofNat']; simp only [Nat.reducePow]; omega
    have hl : (nbs n (2 ^ z)).length = 2 ^ z := nbs_len _ _
    have hb : be (nbs n (2 ^ z)) = n := by
      rw [be_nbs]
      apply Nat.mod_eq_of_lt
      rcases hs with ⟨rfl, h⟩ | ⟨rfl, h, h'⟩ | ⟨rfl, h, h'⟩ | ⟨rfl, h⟩ <;> simp only [Nat.reducePow] <;> omega
    have hsh : ¬ ((2 ^ z = 1 ∧ n < 24) ∨ (1 < 2 ^ z ∧ n / 2 ^ (4 * 2 ^ z) = 0)) := by
      rintro (⟨_, h⟩ | ⟨h1, h2⟩)
      · omega
      · rcases hs with ⟨rfl, h⟩ | ⟨rfl, h, h'⟩ | ⟨rfl, h, h'⟩ | ⟨rfl, h⟩ <;> simp only [Nat.reducePow, Nat.reduceMul] at h1 h2 <;> omega
    unfold headS
    rw [if_neg (by simp)]
    simp only [List.cons_append, List.getD_cons_zero, List.drop_succ_cons, List.drop_zero, hc]
    rw [if_neg (by omega), show (32 * k + 24 + z) % 32 - 24 = z by omega]
    rw [if_neg (by rw [List.length_append, hl]; omega)]
    have ht : (nbs n (2 ^ z) ++ rest).take (2 ^ z) = nbs n (2 ^ z) := List.take_left' hl
    have hd : (nbs n (2 ^ z) ++ rest).drop (2 ^ z) = rest := List.drop_left' hl
    rw [ht, hd, hb, if_neg hsh, show (32 * k + 24 + z) / 32 = k by omega]
theorem headS_of7 (k : Nat) (hk : k < 3) (rest : List UInt8) (items : Nat) : headS ⟨UInt8.ofNat (244 + k) :: rest, items, 0⟩ = (7, 20 + k, ⟨rest, items, 0⟩) := by
  have hc : (UInt8.ofNat (244 + k)).toNat = 244 + k := by rw [UInt8.toNat_ofNat']; simp only [Nat.reducePow]; omega
  unfold headS
  rw [if_neg (by simp)]
  simp only [List.getD_cons_zero, List.drop_succ_cons, List.drop_zero, hc]
  rw [if_pos (by omega), show (244 + k) / 32 = 7 by omega, show (244 + k) % 32 = 20 + k by omega]
mutual
/-- An item as it is read. -/
def canS : CI → CI
  | .mk k n bn b kn ks =>
    if k ≤ 2 then .mk k n true [] true []
    else if k = 3 ∨ k = 4 then .mk k 0 false b true []
    else if k = 5 ∨ k = 6 then .mk k 0 true [] (canL ks).isEmpty (canL ks)
    else .mk k 0 true [] true []
def canL : List CI → List CI
  | [] => []
  | c :: cs => canS c :: canL cs
end
theorem canL_map : ∀ l : List CI, canL l = l.map canS
  | [] => rfl
  | c :: cs => by rw [canL, canL_map cs]; rfl
theorem canS_k (x : CI) : (canS x).k = x.k := by
  obtain ⟨k, n, bn, b, kn, ks⟩ := x
  unfold canS
  (repeat' split) <;> rfl
theorem canS_num (x : CI) (h : x.k ≤ 2) : canS x = .mk x.k x.n true [] true [] := by
  obtain ⟨k, n, bn, b, kn, ks⟩ := x
  unfold canS
  exact if_pos h
theorem canS_txt (x : CI) (h : x.k = 3 ∨ x.k = 4) : canS x = .mk x.k 0 false x.b true [] := by
  obtain ⟨k, n, bn, b, kn, ks⟩ := x
  have h : k = 3 ∨ k = 4 := h
  unfold canS
  rw [if_neg (by omega), if_pos h]
  rfl
theorem canS_grp (x : CI) (h : x.k = 5 ∨ x.k = 6) : canS x = .mk x.k 0 true [] (x.ks.map canS).isEmpty (x.ks.map canS) := by
  obtain ⟨k, n, bn, b, kn, ks⟩ := x
  have h : k = 5 ∨ k = 6 := h
  unfold canS
  rw [if_neg (by omega), if_neg (by omega), if_pos h, canL_map]
  rfl
theorem canS_one (x : CI) (h : x.k = 7 ∨ x.k = 8 ∨ x.k = 9) : canS x = .mk x.k 0 true [] true [] := by
  obtain ⟨k, n, bn, b, kn, ks⟩ := x
  have h : k = 7 ∨ k = 8 ∨ k = 9 := h
  unfold canS
  rw [if_neg (by omega), if_neg (by omega), if_neg (by omega)]
  rfl
theorem can_plain (x : CI) : plainS (canS x) = plainS x := by unfold plainS; rw [canS_k]
theorem can_order (x y : CI) (hx : plainS x = true) (hy : plainS y = true) : orderS (canS x) (canS y) = orderS x y := by
  unfold orderS
  rw [canS_k, canS_k]
  by_cases h : x.k ≠ y.k
  · rw [if_pos h, if_pos h]
  rw [if_neg h, if_neg h]
  have h : x.k = y.k := by simpa using h
  by_cases h2 : x.k ≤ 2
  · rw [if_pos h2, if_pos h2, canS_num x h2, canS_num y (by omega)]
    rfl
  · rw [if_neg h2, if_neg h2]
    have hx4 : x.k ≤ 4 := by unfold plainS at hx; simp at hx; exact hx.2
    rw [canS_txt x (by omega), canS_txt y (by omega)]
    rfl
/-- What is written as an item is read as it. -/
def Reads (itR : RS → CI × RS) (itW : CI → WS → Nat × WS) (d : Nat) : Prop := ∀ (x : CI) (w : WS), Fit d x → (itW x w).1 = 0 →
  ∃ l, (itW x w).2.b = w.b ++ l ∧ ∀ (rest : List UInt8) (s : RS), s.b = l ++ rest → s.err = 0 → s.items = w.items → itR s = (canS x, ⟨rest, (itW x w).2.items, 0⟩)
section
variable {itR : RS → CI × RS} {itW : CI → WS → Nat × WS} {d : Nat} (R : Reads itR itW d) (ks : List CI) (hf : ∀ y ∈ ks, Fit d y)
include R hf
theorem arr_reads : ∀ (n k : Nat) (w : WS), k + n = ks.length → (kidsW itW badO false ks n k w).1 = 0 → ∃ l, (kidsW itW badO false ks n k w).2.b = w.b ++ l ∧
    ∀ (rest : List UInt8) (s : RS), s.b = l ++ rest → s.err = 0 → s.items = w.items →
      arrS itR n s ((ks.take k).map canS) = (.mk 5 0 true [] (ks.map canS).isEmpty (ks.map canS), ⟨rest, (kidsW itW badO false ks n k w).2.items, 0⟩)
  | 0, k, w, hk, h => ⟨[], by simp [kidsW], fun rest s h1 h2 h3 => by
      obtain ⟨b, items, err⟩ := s
      simp only at h1 h2 h3
      subst h2
      subst h3
      simp only [List.nil_append] at h1
      subst h1
      have : ks.take k = ks := List.take_of_length_le (by omega)
      simp [arrS, kidsW, this]⟩
  | n + 1, k, w, hk, h => by
    simp only [kidsW] at h ⊢
    rw [if_neg (by simp), if_neg (by simp)] at h ⊢
    have hlt : k < ks.length := by omega
    have hg : ks.getD k default = ks[k] := by rw [List.getD_eq_getElem?_getD, List.getElem?_eq_getElem hlt]; rfl
    rw [hg] at h ⊢
    by_cases he : (itW ks[k] w).1 ≠ 0
    · rw [if_pos he] at h; exact absurd h he
    rw [if_neg he] at h ⊢
    have he : (itW ks[k] w).1 = 0 := by simpa using he
    obtain ⟨l1, b1, r1⟩ := R ks[k] w (hf _ (List.getElem_mem hlt)) he
    obtain ⟨l2, b2, r2⟩ := arr_reads n (k + 1) _ (by omega) h
    refine ⟨l1 ++ l2, by rw [b2, b1, List.append_assoc], fun rest s h1 h2 h3 => ?_⟩
    have q := r1 (l2 ++ rest) s (by rw [h1, List.append_assoc]) h2 h3
    simp only [arrS]
    rw [q]
    simp only
    rw [if_neg (by simp)]
    have e : (ks.take k).map canS ++ [canS ks[k]] = (ks.take (k + 1)).map canS := by
      rw [List.take_add_one, List.getElem?_eq_getElem hlt, List.map_append]; rfl
    rw [e]
    exact r2 rest _ rfl rfl rfl
theorem pair_reads : ∀ (n k : Nat) (w : WS), k + 2 * n = ks.length → k % 2 = 0 → (∀ j, j < k → j % 2 = 0 → plainS (ks.getD j default) = true) → (kidsW itW badO true ks (2 * n) k w).1 = 0 →
    ∃ l, (kidsW itW badO true ks (2 * n) k w).2.b = w.b ++ l ∧
    ∀ (rest : List UInt8) (s : RS), s.b = l ++ rest → s.err = 0 → s.items = w.items →
      pairS itR n s ((ks.take k).map canS) = (.mk 6 0 true [] (ks.map canS).isEmpty (ks.map canS), ⟨rest, (kidsW itW badO true ks (2 * n) k w).2.items, 0⟩)
  | 0, k, w, hk, hk2, hp, h => ⟨[], by simp [kidsW], fun rest s h1 h2 h3 => by
      obtain ⟨b, items, err⟩ := s
      simp only at h1 h2 h3
      subst h2
      subst h3
      simp only [List.nil_append] at h1
      subst h1
      have : ks.take k = ks := List.take_of_length_le (by omega)
      simp [pairS, kidsW, this]⟩
  | n + 1, k, w, hk, hk2, hp, h => by
    rw [show 2 * (n + 1) = (2 * n + 1) + 1 by omega] at h ⊢
    simp only [kidsW] at h ⊢
    have hlt : k < ks.length := by omega
    have hlt1 : k + 1 < ks.length := by omega
    have hg : ks.getD k default = ks[k] := by rw [List.getD_eq_getElem?_getD, List.getElem?_eq_getElem hlt]; rfl
    have hg1 : ks.getD (k + 1) default = ks[k + 1] := by rw [List.getD_eq_getElem?_getD, List.getElem?_eq_getElem hlt1]; rfl
    rw [hg, hg1] at h ⊢
    by_cases hpl : plainS ks[k] = false
    · rw [if_pos ⟨trivial, hk2, hpl⟩] at h; cases h
    rw [if_neg (fun x => hpl x.2.2)] at h ⊢
    have hpl : plainS ks[k] = true := by simpa using hpl
    by_cases hod : k % 2 = 0 ∧ 0 < k ∧ badO (ks.getD (k - 2) default) ks[k] = true
    · rw [if_pos ⟨trivial, hod⟩] at h; cases h
    rw [if_neg (fun x => hod x.2)] at h ⊢
    by_cases he : (itW ks[k] w).1 ≠ 0
    · rw [if_pos he] at h; exact absurd h he
    rw [if_neg he] at h ⊢
    have he : (itW ks[k] w).1 = 0 := by simpa using he
    rw [if_neg (by omega), if_neg (by omega)] at h ⊢
    by_cases he2 : (itW ks[k + 1] (itW ks[k] w).2).1 ≠ 0
    · rw [if_pos he2] at h; exact absurd h he2
    rw [if_neg he2] at h ⊢
    have he2 : (itW ks[k + 1] (itW ks[k] w).2).1 = 0 := by simpa using he2
    obtain ⟨l1, b1, r1⟩ := R ks[k] w (hf _ (List.getElem_mem hlt)) he
    obtain ⟨l2, b2, r2⟩ := R ks[k + 1] _ (hf _ (List.getElem_mem hlt1)) he2
    obtain ⟨l3, b3, r3⟩ := pair_reads n (k + 1 + 1) _ (by omega) (by omega) (fun j hj hj2 => by
      by_cases hjk : j = k
      · rw [hjk, hg]; exact hpl
      · exact hp j (by omega) hj2) h
    refine ⟨l1 ++ (l2 ++ l3), by rw [b3, b2, b1, List.append_assoc, List.append_assoc], fun rest s h1 h2 h3 => ?_⟩
    have q := r1 (l2 ++ l3 ++ rest) s (by rw [h1]; simp only [List.append_assoc]) h2 h3
    simp only [pairS]
    rw [q]
    simp only
    have hkey : keyS (canS ks[k]) ⟨l2 ++ l3 ++ rest, (itW ks[k] w).2.items, 0⟩ ((ks.take k).map canS) = ⟨l2 ++ l3 ++ rest, (itW ks[k] w).2.items, 0⟩ := by
      refine keyS_good (by rw [can_plain]; exact hpl) ?_
      rintro ⟨hne, ho⟩
      have hk0 : 0 < k := by
        rcases Nat.eq_zero_or_pos k with hk0 | hk0
        · subst hk0; exact absurd rfl hne
        · exact hk0
      have hk2' : k - 2 < ks.length := by omega
      have e1 : ((ks.take k).map canS).getD (((ks.take k).map canS).length - 2) default = canS (ks.getD (k - 2) default) := by
        rw [List.length_map, List.length_take, show min k ks.length - 2 = k - 2 by omega, List.getD_eq_getElem?_getD, List.getD_eq_getElem?_getD, List.getElem?_map, List.getElem?_take, if_pos (by omega), List.getElem?_eq_getElem hk2']
        rfl
      rw [e1, can_order _ _ (hp (k - 2) (by omega) (by omega)) hpl] at ho
      exact hod ⟨hk2, hk0, by unfold badO; exact decide_eq_true ho⟩
    rw [hkey]
    have q2 := r2 (l3 ++ rest) ⟨l2 ++ l3 ++ rest, (itW ks[k] w).2.items, 0⟩ (by simp only [List.append_assoc]) rfl rfl
    rw [q2]
    simp only
    rw [if_neg (by simp)]
    have e : (ks.take k).map canS ++ [canS ks[k], canS ks[k + 1]] = (ks.take (k + 1 + 1)).map canS := by
      rw [List.take_add_one, List.take_add_one, List.getElem?_eq_getElem hlt, List.getElem?_eq_getElem hlt1, List.map_append, List.map_append]
      simp
    rw [e]
    exact r3 rest _ rfl rfl rfl
end
theorem item_reads (valid : List UInt8 → Bool) : ∀ d, Reads (itemS valid d) (itemW valid badO d) d := by
  intro d x w hf h
  obtain ⟨f1, f2, f3, f4, f5⟩ := hf.here
  obtain ⟨r, hr⟩ : ∃ r, itemW valid badO d x w = r := ⟨_, rfl⟩
  rw [hr] at h ⊢
  have hr0 := hr
  unfold itemW at hr
  simp only at hr
  by_cases c1 : 512 < w.items + 1
  · rw [if_pos c1] at hr; subst hr; cases h
  rw [if_neg c1] at hr
  by_cases c2 : x.k = 1 ∨ x.k = 2
  · rw [if_pos c2] at hr
    subst hr
    refine ⟨hdW (x.k - 1) x.n, rfl, fun rest s h1 h2 h3 => ?_⟩
    obtain ⟨b, items, err⟩ := s
    simp only at h1 h2 h3
    subst h2
    subst h3
    rw [itemS_eq, if_neg c1, h1]
    simp only
    rw [headS_of _ _ (by omega) f2]
    simp only
    rw [if_neg (by simp), canS_num x (by omega)]
    unfold bodyS
    rcases c2 with c2 | c2
    · rw [c2]; rfl
    · rw [c2]; rfl
  rw [if_neg c2] at hr
  by_cases c3 : x.k = 3 ∨ x.k = 4
  · rw [if_pos c3] at hr
    by_cases c4 : x.k = 4 ∧ valid x.b = false
    · rw [if_pos c4] at hr; subst hr; cases h
    rw [if_neg c4] at hr
    subst hr
    refine ⟨hdW (x.k - 1) x.b.length ++ x.b, by simp [WS.put], fun rest s h1 h2 h3 => ?_⟩
    obtain ⟨b, items, err⟩ := s
    simp only at h1 h2 h3
    subst h2
    subst h3
    rw [itemS_eq, if_neg c1, h1]
    simp only
    rw [List.append_assoc, headS_of _ _ (by omega) (by omega)]
    simp only
    rw [if_neg (by simp), canS_txt x c3]
    unfold bodyS
    rw [if_neg (by omega), if_neg (by omega), if_pos (by omega)]
    unfold bytesS
    rw [if_neg (by simp)]
    simp only [List.take_left, List.drop_left]
    rcases c3 with c3 | c3
    · rw [c3]; rfl
    · rw [c3, if_neg (by decide), if_neg (fun hv => c4 ⟨c3, hv⟩)]; rfl
  rw [if_neg c3] at hr
  by_cases c5 : x.k = 7 ∨ x.k = 8 ∨ x.k = 9
  · rw [if_pos c5] at hr
    subst hr
    refine ⟨[UInt8.ofNat (244 + (x.k - 7))], rfl, fun rest s h1 h2 h3 => ?_⟩
    obtain ⟨b, items, err⟩ := s
    simp only at h1 h2 h3
    subst h2
    subst h3
    rw [itemS_eq, if_neg c1, h1]
    simp only [List.cons_append, List.nil_append]
    rw [headS_of7 _ (by omega)]
    simp only
    rw [if_neg (by simp), canS_one x c5, body7, if_pos (by omega), show 7 + (20 + (x.k - 7) - 20) = x.k by omega]
    rfl
  rw [if_neg c5] at hr
  by_cases c6 : x.k = 5 ∨ x.k = 6
  · rw [if_pos c6] at hr
    cases d with
    | zero => subst hr; cases h
    | succ d =>
      simp only at hr
      by_cases c7 : x.k = 6 ∧ x.ks.length % 2 = 1
      · rw [if_pos c7] at hr; subst hr; cases h
      rw [if_neg c7] at hr
      rcases c6 with c6 | c6
      · rw [c6, show decide (5 = 6) = false by rfl, if_neg (by decide : ¬ 5 = 6)] at hr
        subst hr
        obtain ⟨l, b1, r1⟩ := arr_reads (item_reads valid d) x.ks hf.2 x.ks.length 0 _ (by omega) h
        refine ⟨hdW 4 x.ks.length ++ l, by rw [b1]; simp [WS.put], fun rest s h1 h2 h3 => ?_⟩
        obtain ⟨b, items, err⟩ := s
        simp only at h1 h2 h3
        subst h2
        subst h3
        rw [itemS_eq, if_neg c1, h1]
        simp only
        rw [List.append_assoc, headS_of _ _ (by omega) (by omega)]
        simp only
        rw [if_neg (by simp), canS_grp x (Or.inl c6), c6]
        unfold bodyS
        rw [if_neg (by omega), if_neg (by omega), if_neg (by omega), if_pos (by omega)]
        simp only
        rw [if_pos trivial]
        exact r1 rest _ rfl rfl rfl
      · rw [c6, show decide (6 = 6) = true by rfl, if_pos (rfl : 6 = 6)] at hr
        have he : x.ks.length = 2 * (x.ks.length / 2) := by
          have : ¬ x.ks.length % 2 = 1 := fun hh => c7 ⟨c6, hh⟩
          omega
        have hr' : kidsW (itemW valid badO d) badO true x.ks (2 * (x.ks.length / 2)) 0 (WS.put { w with items := w.items + 1 } (hdW (6 - 1) (x.ks.length / 2))) = r := by rw [← he]; exact hr
        subst hr'
        obtain ⟨l, b1, r1⟩ := pair_reads (item_reads valid d) x.ks hf.2 (x.ks.length / 2) 0 _ (by omega) rfl (fun j hj => absurd hj (by omega)) h
        refine ⟨hdW 5 (x.ks.length / 2) ++ l, by rw [b1]; simp [WS.put], fun rest s h1 h2 h3 => ?_⟩
        obtain ⟨b, items, err⟩ := s
        simp only at h1 h2 h3
        subst h2
        subst h3
        rw [itemS_eq, if_neg c1, h1]
        simp only
        rw [List.append_assoc, headS_of _ _ (by omega) (by omega)]
        simp only
        rw [if_neg (by simp), canS_grp x (Or.inr c6), c6]
        unfold bodyS
        rw [if_neg (by omega), if_neg (by omega), if_neg (by omega), if_pos (by omega)]
        simp only
        rw [if_neg (by omega)]
        exact r1 rest _ rfl rfl rfl
  rw [if_neg c6] at hr
  subst hr
  cases h
end Go.Proofs.YtijcpdgfbboamaaDoor
