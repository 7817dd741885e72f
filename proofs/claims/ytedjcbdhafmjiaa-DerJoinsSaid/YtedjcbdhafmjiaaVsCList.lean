/- What der.All hands on, and what der.List answers. -/
import Derived.Test.YtedjcbdhafmjiaaVsCRead
import Derived.Test.YtedjcbdhafmjiaaVsRebox
open Go Go.VS
namespace Go.Proofs.Ytedjcbdhafmjiaa
set_option linter.unusedVariables false
set_option linter.unusedSimpArgs false
set_option maxRecDepth 20000
set_option maxHeartbeats 4000000
/-- A piece, or a fault's number. -/
structure Zt where
  tag : UInt8
  body : List UInt8
  e : Int
def pcAV (t : UInt8) (b : List UInt8) : AV := .agg [.int .u8 (t.toNat : Int), .sl none false 1 (b.map u8)]
/-- What is handed on. -/
def encZ (z : Zt) : List AV := [.agg [.int .u8 (z.tag.toNat : Int), .sl none (!decide (z.e = 0)) 1 (z.body.map u8)], .int .i64 z.e]
/-- All pieces, up to the first fault. -/
def zsN : Nat → List UInt8 → List Zt
  | 0, _ => []
  | n + 1, bs =>
    if bs = [] then [] else
      match readSpec bs with
      | .inl e => [⟨0, [], e⟩]
      | .inr (h, k) => ⟨bs.getD 0 default, (bs.drop h).take k, 0⟩ :: zsN n (bs.drop (h + k))
def zsS (bs : List UInt8) : List Zt := zsN bs.length bs
theorem spec_pos {bs : List UInt8} {h k : Nat} (hs : readSpec bs = .inr (h, k)) : 2 ≤ h ∧ h + k ≤ bs.length := by
  unfold readSpec at hs
  simp only at hs
  repeat' split at hs
  all_goals first | (cases hs; omega) | cases hs
theorem spec_err {bs : List UInt8} {e : Int} (hs : readSpec bs = .inl e) : e = 3 ∨ e = 30 := by
  unfold readSpec at hs
  simp only at hs
  repeat' split at hs
  all_goals first | (cases hs; simp; done) | cases hs
theorem zsN_more : ∀ (n m : Nat) (bs : List UInt8), bs.length ≤ n → bs.length ≤ m → zsN n bs = zsN m bs
  | 0, m, bs, h, _ => by
    have : bs = [] := List.length_eq_zero_iff.1 (by omega)
    subst this
    cases m with
    | zero => rfl
    | succ m => simp [zsN]
  | n + 1, 0, bs, _, h => by
    have : bs = [] := List.length_eq_zero_iff.1 (by omega)
    subst this
    simp [zsN]
  | n + 1, m + 1, bs, h, h' => by
    unfold zsN
    split
    · rfl
    · cases hs : readSpec bs with
      | inl e => rfl
      | inr p =>
        obtain ⟨h0, k⟩ := p
        obtain ⟨p1, p2⟩ := spec_pos hs
        simp only
        rw [zsN_more n m _ (by simp; omega) (by simp; omega)]
theorem zsS_nil : zsS [] = [] := rfl
theorem zsS_cons {bs : List UInt8} (hb : bs ≠ []) : zsS bs = match readSpec bs with
      | .inl e => [⟨0, [], e⟩]
      | .inr (h, k) => ⟨bs.getD 0 default, (bs.drop h).take k, 0⟩ :: zsS (bs.drop (h + k)) := by
  have hl : bs.length ≠ 0 := fun h => hb (List.length_eq_zero_iff.1 h)
  obtain ⟨n, hn⟩ : ∃ n, bs.length = n + 1 := ⟨bs.length - 1, by omega⟩
  unfold zsS
  rw [hn]
  show (if bs = [] then [] else _) = _
  rw [if_neg hb]
  cases hs : readSpec bs with
  | inl e => rfl
  | inr p =>
    obtain ⟨h, k⟩ := p
    obtain ⟨p1, p2⟩ := spec_pos hs
    simp only
    rw [zsN_more n _ _ (by simp; omega) (Nat.le_refl _)]
def k52_VsCList : List Nat := [0,1,2]
attribute [go_sem] k52_VsCList
theorem f52_ok (nb : Bool) (bs : List UInt8) : CallsB Try.prog 52 [.sl none nb 1 (bs.map u8)] [] (.fn 55 [.ptr 1000000 0]) [[.sl none nb 1 (bs.map u8)]] := by
  refine CallsB.intro Try.func52 rfl (by show 1 ≤ 4; decide) ?_
  rintro X hX
  have hn : X.n = 4 := hX
  unfold Try.f52
  dsimp only
  rw [entryB_0, entry1]
  repeat' first
    | (with_reducible refine retSB_ret [1] ?_)
    | with_reducible (first | refine AWP.seqA ?_ | refine AWP.seqB ?_ | refine AWP.block ?_ | refine AWP.skipN ?_ | refine AWP.skip ?_ | refine AWP.exit ?_ | refine AWP.ret ?_ | refine AWP.loopT 3 ?_ | refine AWP.unroll 3 ?_ | refine LoopN.succ ?_ | refine thenS_n ?_ | refine thenS_x ?_ | refine thenS_r ?_ | refine blockS_n ?_ | refine blockS_r ?_ | refine blockS_x ?_ | refine blockS_y (by decide) ?_)
    | ((with_reducible refine hK _ ?_); clear hK K) | ((with_reducible refine hKt ?_); clear hKt hKf Kt Kf) | ((with_reducible refine hKf ?_); clear hKt hKf Kt Kf) | ((with_reducible refine condP_split (fun hg => hKt ?_) (fun hg => hKf ?_)) <;> clear hKt hKf Kt Kf <;> (try simp only [hgW] at hg) <;> try (exfalso; omega))
    | ((first | (with_reducible refine guardP_split (fun hg => ?_) (fun hg => ?_)) <;> simp -implicitDefEqProofs only [hg, Array.size_empty, Int.cast_ofNat_Int, hn, go_sem, simprocAttr] <;> (try simp only [hgW] at hg) | ((first | with_reducible (first | refine AWP.seqRB k52_VsCList fun K hK => ?_ | refine AWP.lastRB k52_VsCList fun K hK => ?_ | refine AWP.seqC fun Kt Kf hKt hKf => ?_ | refine AWP.condK fun Kt Kf hKt hKf => ?_ | refine retSB_ret [] ?_ | refine retSB_end [] ?_)); simp -implicitDefEqProofs only [Array.size_empty, Int.cast_ofNat_Int, hn, go_sem, simprocAttr])) <;> try simp (disch := omega) only [wrW])
    | with_reducible refine And.intro (by first | omega | (simp only [hgW]; omega)) ?_
    | (exfalso; omega)
  simp -implicitDefEqProofs only [Int.cast_ofNat_Int, hn, go_sem, simprocAttr]
  all_goals trace_state
def k55_VsCList : List Nat := [0,1,3,4,11,22,23]
attribute [go_sem] k55_VsCList
def todoS (e : Int) (bs : List UInt8) : List Zt := if e = 0 then zsS bs else []
theorem f55_ok (nb : Bool) (bs : List UInt8) (hnb : nb = true → bs = []) : IterB Try.prog 55 [.ptr 1000000 0] [[.sl none nb 1 (bs.map u8)]] ((zsS bs).map fun z => .tup (encZ z)) [[.undef]] := by
  refine IterB.intro Try.func55 rfl (by show 1 + 1 ≤ 23; decide) rfl ?_
  rintro X lp hX
  have hn : X.n = 23 := hX
  unfold Try.f55
  dsimp only
  rw [entryI11]
  repeat' first
    | with_reducible (first | refine AWP.seqA ?_ | refine AWP.seqB ?_ | refine AWP.block ?_ | refine AWP.skipN ?_ | refine AWP.skip ?_ | refine AWP.exit ?_ | refine AWP.ret ?_ | refine LoopN.succ ?_ | refine thenS_n ?_ | refine thenS_x ?_ | refine thenS_r ?_ | refine blockS_n ?_ | refine blockS_r ?_ | refine blockS_x ?_ | refine blockS_y (by decide) ?_)
    | ((with_reducible refine hK _ ?_); clear hK K) | ((with_reducible refine hKt ?_); clear hKt hKf Kt Kf) | ((with_reducible refine hKf ?_); clear hKt hKf Kt Kf) | ((with_reducible refine condP_split (fun hg => hKt ?_) (fun hg => hKf ?_)) <;> clear hKt hKf Kt Kf <;> (try simp only [hgW] at hg) <;> try (exfalso; omega))
    | ((first | (with_reducible refine guardP_split (fun hg => ?_) (fun hg => ?_)) <;> simp -implicitDefEqProofs only [hg, Int.cast_ofNat_Int, hn, go_sem, simprocAttr] <;> (try simp only [hgW] at hg) | ((first | with_reducible (first | refine AWP.seqRB k55_VsCList fun K hK => ?_ | refine AWP.lastRB k55_VsCList fun K hK => ?_ | refine AWP.seqC fun Kt Kf hKt hKf => ?_ | refine AWP.condK fun Kt Kf hKt hKf => ?_)); simp -implicitDefEqProofs only [Int.cast_ofNat_Int, hn, go_sem, simprocAttr])) <;> try simp (disch := omega) only [wrW])
    | with_reducible refine And.intro (by first | omega | (simp only [hgW]; omega)) ?_
    | (exfalso; omega)
  refine AWP.loopF [0, 1, 3, 23] [4] [(0, 2000014)] (fun x : Bool × List UInt8 × List Zt × Int => St.mk (lk [(0, .yl lp), (1, .ptr 1000000 0), (3, .int .i64 x.2.2.2), (23, .ghost lp false (x.2.2.1.map fun z => .tup (encZ z)) ((todoS x.2.2.2 x.2.1).map fun z => .tup (encZ z)))])
    (lkB [(1000000, [.sl none x.1 1 (x.2.1.map u8)])]) (hasS []) (hasS []) (hasN []) (lkR []))
    (fun x => x.1 = true → x.2.1 = []) (fun x => x.2.1.length) (nb, bs, [], 0) ?_ rfl hnb ?_
  · simp -implicitDefEqProofs only [Int.cast_ofNat_Int, hn, go_sem, simprocAttr]
    try rfl
  · rintro ⟨nb, bs, zs1, e⟩ hnb
    simp only at hnb ⊢
    by_cases he : e = 0
    · subst he
      by_cases hb : bs = []
      · subst hb
        repeat' first
          | with_reducible (first | refine AWP.seqA ?_ | refine AWP.seqB ?_ | refine AWP.block ?_ | refine AWP.skipN ?_ | refine AWP.skip ?_ | refine AWP.exit ?_ | refine AWP.ret ?_ | refine LoopN.succ ?_ | refine thenS_n ?_ | refine thenS_x ?_ | refine thenS_r ?_ | refine blockS_n ?_ | refine blockS_r ?_ | refine blockS_x ?_ | refine blockS_y (by decide) ?_)
          | ((with_reducible refine hK _ ?_); clear hK K) | ((with_reducible refine hKt ?_); clear hKt hKf Kt Kf) | ((with_reducible refine hKf ?_); clear hKt hKf Kt Kf) | ((with_reducible refine condP_split (fun hg => hKt ?_) (fun hg => hKf ?_)) <;> clear hKt hKf Kt Kf <;> (try simp only [hgW] at hg) <;> try (exfalso; omega))
          | ((first | (with_reducible refine guardP_split (fun hg => ?_) (fun hg => ?_)) <;> simp -implicitDefEqProofs only [hg, Int.cast_ofNat_Int, hn, go_sem, simprocAttr] <;> (try simp only [hgW] at hg) | ((first | with_reducible (first | refine AWP.seqRB k55_VsCList fun K hK => ?_ | refine AWP.lastRB k55_VsCList fun K hK => ?_ | refine AWP.seqC fun Kt Kf hKt hKf => ?_ | refine AWP.condK fun Kt Kf hKt hKf => ?_)); simp -implicitDefEqProofs only [Int.cast_ofNat_Int, hn, go_sem, simprocAttr])) <;> try simp (disch := omega) only [wrW])
          | with_reducible refine And.intro (by first | omega | (simp only [hgW]; omega)) ?_
          | (exfalso; omega)
        exact ⟨.inr rfl, ⟨false, _, _, rfl, fun _ => rfl⟩, leaves1_one rfl (.inr rfl)⟩
      · have hz := zsS_cons hb
        have c40 := f40_any nb bs hnb
        unfold readA at c40
        have ht : todoS 0 bs = zsS bs := rfl
        have hbl : 0 < bs.length := List.length_pos_iff.2 hb
        rw [ht, hz]
        cases hs : readSpec bs with
        | inl e =>
          rw [hs] at c40
          simp only at c40 ⊢
          have he := spec_err hs
          repeat' first
            | with_reducible (first | refine AWP.seqA ?_ | refine AWP.seqB ?_ | refine AWP.block ?_ | refine AWP.skipN ?_ | refine AWP.skip ?_ | refine AWP.exit ?_ | refine AWP.ret ?_ | refine LoopN.succ ?_ | refine thenS_n ?_ | refine thenS_x ?_ | refine thenS_r ?_ | refine blockS_n ?_ | refine blockS_r ?_ | refine blockS_x ?_ | refine blockS_y (by decide) ?_)
            | ((with_reducible refine hK _ ?_); clear hK K) | ((with_reducible refine hKt ?_); clear hKt hKf Kt Kf) | ((with_reducible refine hKf ?_); clear hKt hKf Kt Kf) | ((with_reducible refine condP_split (fun hg => hKt ?_) (fun hg => hKf ?_)) <;> clear hKt hKf Kt Kf <;> (try simp only [hgW] at hg) <;> try (exfalso; omega))
            | ((first | (with_reducible refine guardP_split (fun hg => ?_) (fun hg => ?_)) <;> simp -implicitDefEqProofs only [hg, Int.cast_ofNat_Int, hn, go_sem, simprocAttr] <;> (try simp only [hgW] at hg) | ((first | with_reducible (first | refine AWP.seqRB k55_VsCList fun K hK => ?_ | refine AWP.lastRB k55_VsCList fun K hK => ?_ | refine AWP.seqC fun Kt Kf hKt hKf => ?_ | refine AWP.condK fun Kt Kf hKt hKf => ?_) | refine callE_P (c40) ?_ | refine callP_intro2 (c40) ?_ | refine callE_X (c40) ?_); simp -implicitDefEqProofs only [Int.cast_ofNat_Int, hn, go_sem, simprocAttr])) <;> try simp (disch := omega) only [wrW])
            | with_reducible refine And.intro (by first | omega | (simp only [hgW]; omega)) ?_
            | (exfalso; omega)
          refine yieldP_mk (ys := encZ ⟨0, [], e⟩) _ _ ?_ rfl ?_ (by decide) ?_
          · simp only [encZ, List.map_cons, List.map_nil, froz, frozL]
            rw [decide_eq_false (by omega)]
            rfl
          · simp -implicitDefEqProofs only [Int.cast_ofNat_Int, hn, go_sem, simprocAttr]
          · intro b
            simp -implicitDefEqProofs only [Int.cast_ofNat_Int, hn, go_sem, simprocAttr]
            repeat' first
              | with_reducible (first | refine AWP.seqA ?_ | refine AWP.seqB ?_ | refine AWP.block ?_ | refine AWP.skipN ?_ | refine AWP.skip ?_ | refine AWP.exit ?_ | refine AWP.ret ?_ | refine LoopN.succ ?_ | refine thenS_n ?_ | refine thenS_x ?_ | refine thenS_r ?_ | refine blockS_n ?_ | refine blockS_r ?_ | refine blockS_x ?_ | refine blockS_y (by decide) ?_)
              | ((with_reducible refine hK _ ?_); clear hK K) | ((with_reducible refine hKt ?_); clear hKt hKf Kt Kf) | ((with_reducible refine hKf ?_); clear hKt hKf Kt Kf) | ((with_reducible refine condP_split (fun hg => hKt ?_) (fun hg => hKf ?_)) <;> clear hKt hKf Kt Kf <;> (try simp only [hgW] at hg) <;> try (exfalso; omega))
              | ((first | (with_reducible refine guardP_split (fun hg => ?_) (fun hg => ?_)) <;> simp -implicitDefEqProofs only [hg, Int.cast_ofNat_Int, hn, go_sem, simprocAttr] <;> (try simp only [hgW] at hg) | ((first | with_reducible (first | refine AWP.seqRB k55_VsCList fun K hK => ?_ | refine AWP.lastRB k55_VsCList fun K hK => ?_ | refine AWP.seqC fun Kt Kf hKt hKf => ?_ | refine AWP.condK fun Kt Kf hKt hKf => ?_)); simp -implicitDefEqProofs only [Int.cast_ofNat_Int, hn, go_sem, simprocAttr])) <;> try simp (disch := omega) only [wrW])
              | with_reducible refine And.intro (by first | omega | (simp only [hgW]; omega)) ?_
              | (exfalso; omega)
            · subst hg
              exact ⟨.inl rfl, ⟨true, _, _, rfl, fun h => by cases h⟩, leaves1_one rfl (.inr rfl)⟩
            · subst hg
              refine ⟨(true, [], zs1 ++ [⟨0, [], e⟩], e), ?_, rfl, fun _ => rfl, by simpa using hbl⟩
              have ht : todoS e [] = [] := by unfold todoS; split <;> rfl
              simp -implicitDefEqProofs only [ht, Int.cast_ofNat_Int, hn, go_sem, simprocAttr]
              try rfl
        | inr p =>
          obtain ⟨h, k⟩ := p
          rw [hs] at c40
          simp only at c40 ⊢
          obtain ⟨p1, p2⟩ := spec_pos hs
          repeat' first
            | with_reducible (first | refine AWP.seqA ?_ | refine AWP.seqB ?_ | refine AWP.block ?_ | refine AWP.skipN ?_ | refine AWP.skip ?_ | refine AWP.exit ?_ | refine AWP.ret ?_ | refine LoopN.succ ?_ | refine thenS_n ?_ | refine thenS_x ?_ | refine thenS_r ?_ | refine blockS_n ?_ | refine blockS_r ?_ | refine blockS_x ?_ | refine blockS_y (by decide) ?_)
            | ((with_reducible refine hK _ ?_); clear hK K) | ((with_reducible refine hKt ?_); clear hKt hKf Kt Kf) | ((with_reducible refine hKf ?_); clear hKt hKf Kt Kf) | ((with_reducible refine condP_split (fun hg => hKt ?_) (fun hg => hKf ?_)) <;> clear hKt hKf Kt Kf <;> (try simp only [hgW] at hg) <;> try (exfalso; omega))
            | ((first | (with_reducible refine guardP_split (fun hg => ?_) (fun hg => ?_)) <;> simp -implicitDefEqProofs only [hg, Int.cast_ofNat_Int, hn, go_sem, simprocAttr] <;> (try simp only [hgW] at hg) | ((first | with_reducible (first | refine AWP.seqRB k55_VsCList fun K hK => ?_ | refine AWP.lastRB k55_VsCList fun K hK => ?_ | refine AWP.seqC fun Kt Kf hKt hKf => ?_ | refine AWP.condK fun Kt Kf hKt hKf => ?_) | refine callE_P (c40) ?_ | refine callP_intro2 (c40) ?_ | refine callE_X (c40) ?_); simp -implicitDefEqProofs only [Int.cast_ofNat_Int, hn, go_sem, simprocAttr])) <;> try simp (disch := omega) only [wrW])
            | with_reducible refine And.intro (by first | omega | (simp only [hgW]; omega)) ?_
            | (exfalso; omega)
          refine yieldP_mk (ys := encZ ⟨bs.getD 0 default, (bs.drop h).take k, 0⟩) _ _ rfl rfl ?_ (by decide) ?_
          · simp -implicitDefEqProofs only [Int.cast_ofNat_Int, hn, go_sem, simprocAttr]
          · intro b
            simp -implicitDefEqProofs only [Int.cast_ofNat_Int, hn, go_sem, simprocAttr]
            repeat' first
              | with_reducible (first | refine AWP.seqA ?_ | refine AWP.seqB ?_ | refine AWP.block ?_ | refine AWP.skipN ?_ | refine AWP.skip ?_ | refine AWP.exit ?_ | refine AWP.ret ?_ | refine LoopN.succ ?_ | refine thenS_n ?_ | refine thenS_x ?_ | refine thenS_r ?_ | refine blockS_n ?_ | refine blockS_r ?_ | refine blockS_x ?_ | refine blockS_y (by decide) ?_)
              | ((with_reducible refine hK _ ?_); clear hK K) | ((with_reducible refine hKt ?_); clear hKt hKf Kt Kf) | ((with_reducible refine hKf ?_); clear hKt hKf Kt Kf) | ((with_reducible refine condP_split (fun hg => hKt ?_) (fun hg => hKf ?_)) <;> clear hKt hKf Kt Kf <;> (try simp only [hgW] at hg) <;> try (exfalso; omega))
              | ((first | (with_reducible refine guardP_split (fun hg => ?_) (fun hg => ?_)) <;> simp -implicitDefEqProofs only [hg, Int.cast_ofNat_Int, hn, go_sem, simprocAttr] <;> (try simp only [hgW] at hg) | ((first | with_reducible (first | refine AWP.seqRB k55_VsCList fun K hK => ?_ | refine AWP.lastRB k55_VsCList fun K hK => ?_ | refine AWP.seqC fun Kt Kf hKt hKf => ?_ | refine AWP.condK fun Kt Kf hKt hKf => ?_)); simp -implicitDefEqProofs only [Int.cast_ofNat_Int, hn, go_sem, simprocAttr])) <;> try simp (disch := omega) only [wrW])
              | with_reducible refine And.intro (by first | omega | (simp only [hgW]; omega)) ?_
              | (exfalso; omega)
            · subst hg
              exact ⟨.inl rfl, ⟨true, _, _, rfl, fun h => by cases h⟩, leaves1_one rfl (.inr rfl)⟩
            · subst hg
              refine ⟨(false, bs.drop (h + k), zs1 ++ [⟨bs.getD 0 default, (bs.drop h).take k, 0⟩], 0), ?_, rfl, fun h => (by cases h), (by simp; omega)⟩
              have ht : todoS 0 (bs.drop (h + k)) = zsS (bs.drop (h + k)) := rfl
              simp -implicitDefEqProofs only [ht, Int.cast_ofNat_Int, hn, go_sem, simprocAttr]
              try rfl
    · have ht : todoS e bs = [] := if_neg he
      rw [ht]
      repeat' first
        | with_reducible (first | refine AWP.seqA ?_ | refine AWP.seqB ?_ | refine AWP.block ?_ | refine AWP.skipN ?_ | refine AWP.skip ?_ | refine AWP.exit ?_ | refine AWP.ret ?_ | refine LoopN.succ ?_ | refine thenS_n ?_ | refine thenS_x ?_ | refine thenS_r ?_ | refine blockS_n ?_ | refine blockS_r ?_ | refine blockS_x ?_ | refine blockS_y (by decide) ?_)
        | ((with_reducible refine hK _ ?_); clear hK K) | ((with_reducible refine hKt ?_); clear hKt hKf Kt Kf) | ((with_reducible refine hKf ?_); clear hKt hKf Kt Kf) | ((with_reducible refine condP_split (fun hg => hKt ?_) (fun hg => hKf ?_)) <;> clear hKt hKf Kt Kf <;> (try simp only [hgW] at hg) <;> try (exfalso; omega))
        | ((first | (with_reducible refine guardP_split (fun hg => ?_) (fun hg => ?_)) <;> simp -implicitDefEqProofs only [hg, Int.cast_ofNat_Int, hn, go_sem, simprocAttr] <;> (try simp only [hgW] at hg) | ((first | with_reducible (first | refine AWP.seqRB k55_VsCList fun K hK => ?_ | refine AWP.lastRB k55_VsCList fun K hK => ?_ | refine AWP.seqC fun Kt Kf hKt hKf => ?_ | refine AWP.condK fun Kt Kf hKt hKf => ?_)); simp -implicitDefEqProofs only [Int.cast_ofNat_Int, hn, go_sem, simprocAttr])) <;> try simp (disch := omega) only [wrW])
        | with_reducible refine And.intro (by first | omega | (simp only [hgW]; omega)) ?_
        | (exfalso; omega)
      all_goals exact ⟨.inr rfl, ⟨false, _, _, rfl, fun _ => rfl⟩, leaves1_one rfl (.inr rfl)⟩
def k42_VsCList : List Nat := [0,2,3,4,5,6,8,9,10,12]
attribute [go_sem] k42_VsCList
/-- The pieces, if there was no fault; else none, and the fault. -/
def errZ (zs : List Zt) : Int := (zs.map (·.e)).sum
def listA (bs : List UInt8) : AV :=
  if errZ (zsS bs) = 0 then .tup [.sl none (zsS bs).isEmpty 2 ((zsS bs).map fun z => pcAV z.tag z.body), .int .i64 0] else .tup [.sl none true 2 [], .int .i64 (errZ (zsS bs))]
theorem zsN_len : ∀ (n : Nat) (bs : List UInt8), (zsN n bs).length ≤ n
  | 0, bs => by simp [zsN]
  | n + 1, bs => by
    unfold zsN
    split
    · simp
    · cases readSpec bs with
      | inl e => simp
      | inr p =>
        obtain ⟨h0, k⟩ := p
        have := zsN_len n (bs.drop (h0 + k))
        simp; exact this
theorem zsS_len (bs : List UInt8) : (zsS bs).length ≤ bs.length := zsN_len _ _
theorem errZ_app (zs : List Zt) (z : Zt) : errZ (zs ++ [z]) = errZ zs + z.e := by simp [errZ]
theorem zsN_last : ∀ (n : Nat) (bs : List UInt8) (zs1 : List Zt) (z : Zt) (zs2 : List Zt), zsN n bs = zs1 ++ z :: zs2 → z.e ≠ 0 → zs2 = []
  | 0, bs, zs1, z, zs2, h, _ => by simp [zsN] at h
  | n + 1, bs, zs1, z, zs2, h, hz => by
    unfold zsN at h
    split at h
    · simp at h
    · cases hs : readSpec bs with
      | inl e =>
        rw [hs] at h
        cases zs1 with
        | nil => simp at h; exact h.2
        | cons y zs1 => simp at h
      | inr p =>
        obtain ⟨h0, k⟩ := p
        rw [hs] at h
        cases zs1 with
        | nil => simp at h; rw [← h.1] at hz; exact (hz rfl).elim
        | cons y zs1 => simp at h; exact zsN_last n _ zs1 z zs2 h.2 hz
theorem zsS_last {bs : List UInt8} {zs1 : List Zt} {z : Zt} {zs2 : List Zt} (h : zsS bs = zs1 ++ z :: zs2) (hz : z.e ≠ 0) : zs2 = [] := zsN_last _ _ _ _ _ h hz
theorem f42_ok (nb : Bool) (bs : List UInt8) (hnb : nb = true → bs = []) (hB : bs.length ≤ 10000) : CallsP Try.prog 42 [.sl none nb 1 (bs.map u8)] (listA bs) := by
  have c55 := f55_ok nb bs hnb
  refine CallsP.introRF Try.func42 rfl (by show 1 ≤ 19; decide) ?_
  rintro X hX hR
  have hn : X.n = 19 := hX
  unfold Try.f42
  dsimp only
  rw [entryB_0, entry1]
  repeat' first
    | with_reducible (first | refine AWP.seqA ?_ | refine AWP.seqB ?_ | refine AWP.block ?_ | refine AWP.skipN ?_ | refine AWP.skip ?_ | refine AWP.exit ?_ | refine AWP.ret ?_ | refine LoopN.succ ?_ | refine thenS_n ?_ | refine thenS_x ?_ | refine thenS_r ?_ | refine blockS_n ?_ | refine blockS_r ?_ | refine blockS_x ?_ | refine blockS_y (by decide) ?_)
    | ((with_reducible refine hK _ ?_); clear hK K) | ((with_reducible refine hKt ?_); clear hKt hKf Kt Kf) | ((with_reducible refine hKf ?_); clear hKt hKf Kt Kf) | ((with_reducible refine condP_split (fun hg => hKt ?_) (fun hg => hKf ?_)) <;> clear hKt hKf Kt Kf <;> (try simp only [hgW] at hg) <;> try (exfalso; omega))
    | ((with_reducible refine callE_B3 (f52_ok nb bs) ?_); simp -implicitDefEqProofs only [eqOk_true, Int.cast_ofNat_Int, hn, go_sem, simprocAttr]; (skip; try simp (disch := omega) only [wrW]); fail_if_success (with_reducible refine eqOk_mk ?_))
    | ((first | (with_reducible refine guardP_split (fun hg => ?_) (fun hg => ?_)) <;> simp -implicitDefEqProofs only [hg, Int.cast_ofNat_Int, hn, go_sem, simprocAttr] <;> (try simp only [hgW] at hg) | ((first | with_reducible (first | refine AWP.seqRB k42_VsCList fun K hK => ?_ | refine AWP.lastRB k42_VsCList fun K hK => ?_ | refine AWP.seqC fun Kt Kf hKt hKf => ?_ | refine AWP.condK fun Kt Kf hKt hKf => ?_ | refine retSF_ret [] ?_ | refine retSF_end [] ?_)); simp -implicitDefEqProofs only [Int.cast_ofNat_Int, hn, go_sem, simprocAttr])) <;> try simp (disch := omega) only [wrW])
    | with_reducible refine And.intro (by first | omega | (simp only [hgW]; omega)) ?_
    | (exfalso; omega)
  refine AWP.adoptB 4 0 (0, 999) 0 2 rfl rfl ?_
  simp -implicitDefEqProofs only [Int.cast_ofNat_Int, hn, go_sem, simprocAttr]
  refine AWP.rebox rfl ?_
  simp -implicitDefEqProofs only [Int.cast_ofNat_Int, hn, go_sem, simprocAttr]
  refine AWP.order [1200080, 1100002, 1100003, 1100004] rfl rfl ?_
  simp -implicitDefEqProofs only [Int.cast_ofNat_Int, hn, go_sem, simprocAttr]
  refine AWP.rangeT encZ (zsS bs) (fun l => decide (errZ l = 0)) [1200080] [[.sl none nb 1 (bs.map u8)]] _
    (fun l => [(1100002, [.sl none true 2 []]), (1100003, [.int .i64 0]), (1100004, [.sl (some ((0, 999), 0)) l.isEmpty 2 (l.map fun z => pcAV z.tag z.body)])])
    [2, 3, 4] [5] (fun e B => e = .ret ∧ ∃ (er : Int) (c : List AV), errZ (zsS bs) = er ∧ er ≠ 0 ∧ B = [(1100002, [.sl none true 2 []]), (1100003, [.int .i64 er]), (1100004, c)])
    (f := 55) (cap := [.ptr 1200080 0]) (bs' := [[.undef]]) hR c55 ?_ ?_ ?_ ?_ ?_ ?_ ?_ ?_ ?_ ?_ ?_ ?_
  · simp -implicitDefEqProofs only [Int.cast_ofNat_Int, hn, go_sem, simprocAttr]
  · rfl
  · simp [nodupN, hasN, okBL, okB, stAL, stA]
  · simp [hn, stab, stabL, lk, plainS, hasN]
  · simp [okKeys, hasN, noIdL, noId]
  · rfl
  · simp [hn, nodupN, hasN]
  · exact fun z => rfl
  · simp [okBL, okB, stabL, stab, bxIds]
  · intro zs1 z zs2 hz h1 X' hX'
    have hn0 := hn
    have hn : X'.n = 19 := hX'.trans hn
    unfold encZ
    simp -implicitDefEqProofs only [Int.cast_ofNat_Int, hn, go_sem, simprocAttr]
    repeat' first
      | with_reducible (first | refine AWP.seqA ?_ | refine AWP.seqB ?_ | refine AWP.block ?_ | refine AWP.skipN ?_ | refine AWP.skip ?_ | refine AWP.exit ?_ | refine AWP.ret ?_ | refine LoopN.succ ?_ | refine thenS_n ?_ | refine thenS_x ?_ | refine thenS_r ?_ | refine blockS_n ?_ | refine blockS_r ?_ | refine blockS_x ?_ | refine blockS_y (by decide) ?_)
      | ((with_reducible refine hK _ ?_); clear hK K) | ((with_reducible refine hKt ?_); clear hKt hKf Kt Kf) | ((with_reducible refine hKf ?_); clear hKt hKf Kt Kf) | ((with_reducible refine condP_split (fun hg => hKt ?_) (fun hg => hKf ?_)) <;> clear hKt hKf Kt Kf <;> (try simp only [hgW] at hg) <;> try (exfalso; omega))
      | ((first | (with_reducible refine guardP_split (fun hg => ?_) (fun hg => ?_)) <;> simp -implicitDefEqProofs only [hg, Int.cast_ofNat_Int, hn, go_sem, simprocAttr] <;> (try simp only [hgW] at hg) | ((first | with_reducible (first | refine AWP.seqRB k42_VsCList fun K hK => ?_ | refine AWP.lastRB k42_VsCList fun K hK => ?_ | refine AWP.seqC fun Kt Kf hKt hKf => ?_ | refine AWP.condK fun Kt Kf hKt hKf => ?_ | refine retSF_ret [] ?_ | refine retSF_end [] ?_)); simp -implicitDefEqProofs only [Int.cast_ofNat_Int, hn, go_sem, simprocAttr])) <;> try simp (disch := omega) only [wrW])
      | with_reducible refine And.intro (by first | omega | (simp only [hgW]; omega)) ?_
      | (exfalso; omega)
    refine ⟨rfl, by simp [hX', hn0, lk, plainS], fun X'' hX'' => ?_⟩
    have hn : X''.n = 19 := hX''.trans hn0
    by_cases he : z.e = 0
    · rw [he]
      have hl1 : zs1.length < 10000 := by
        have h2 := congrArg List.length hz
        have h3 := zsS_len bs
        simp at h2
        omega
      repeat' first
        | with_reducible (first | refine AWP.seqA ?_ | refine AWP.seqB ?_ | refine AWP.block ?_ | refine AWP.skipN ?_ | refine AWP.skip ?_ | refine AWP.exit ?_ | refine AWP.ret ?_ | refine LoopN.succ ?_ | refine thenS_n ?_ | refine thenS_x ?_ | refine thenS_r ?_ | refine blockS_n ?_ | refine blockS_r ?_ | refine blockS_x ?_ | refine blockS_y (by decide) ?_)
        | ((with_reducible refine hK _ ?_); clear hK K) | ((with_reducible refine hKt ?_); clear hKt hKf Kt Kf) | ((with_reducible refine hKf ?_); clear hKt hKf Kt Kf) | ((with_reducible refine condP_split (fun hg => hKt ?_) (fun hg => hKf ?_)) <;> clear hKt hKf Kt Kf <;> (try simp only [hgW] at hg) <;> try (exfalso; omega))
        | ((first | (with_reducible refine guardP_split (fun hg => ?_) (fun hg => ?_)) <;> simp -implicitDefEqProofs only [hg, Int.cast_ofNat_Int, hn, go_sem, simprocAttr] <;> (try simp only [hgW] at hg) | ((first | with_reducible (first | refine AWP.seqRB k42_VsCList fun K hK => ?_ | refine AWP.lastRB k42_VsCList fun K hK => ?_ | refine AWP.seqC fun Kt Kf hKt hKf => ?_ | refine AWP.condK fun Kt Kf hKt hKf => ?_ | refine retSF_ret [] ?_ | refine retSF_end [] ?_)); simp -implicitDefEqProofs only [Int.cast_ofNat_Int, hn, go_sem, simprocAttr])) <;> try simp (disch := omega) only [wrW])
        | with_reducible refine And.intro (by first | omega | (simp only [hgW]; omega)) ?_
        | (exfalso; omega)
      refine ⟨_, ?_, ?_, .inl ⟨rfl, by simpa [errZ_app, he] using h1, rfl⟩⟩
      · simp -implicitDefEqProofs only [Int.cast_ofNat_Int, hn, go_sem, simprocAttr]
        simp [pcAV, show (zs1 ++ [z]).isEmpty = false by cases zs1 <;> rfl]
      · rfl
    · have hz2 := zsS_last hz he
      subst hz2
      repeat' first
        | with_reducible (first | refine AWP.seqA ?_ | refine AWP.seqB ?_ | refine AWP.block ?_ | refine AWP.skipN ?_ | refine AWP.skip ?_ | refine AWP.exit ?_ | refine AWP.ret ?_ | refine LoopN.succ ?_ | refine thenS_n ?_ | refine thenS_x ?_ | refine thenS_r ?_ | refine blockS_n ?_ | refine blockS_r ?_ | refine blockS_x ?_ | refine blockS_y (by decide) ?_)
        | ((with_reducible refine hK _ ?_); clear hK K) | ((with_reducible refine hKt ?_); clear hKt hKf Kt Kf) | ((with_reducible refine hKf ?_); clear hKt hKf Kt Kf) | ((with_reducible refine condP_split (fun hg => hKt ?_) (fun hg => hKf ?_)) <;> clear hKt hKf Kt Kf <;> (try simp only [hgW] at hg) <;> try (exfalso; omega))
        | ((first | (with_reducible refine guardP_split (fun hg => ?_) (fun hg => ?_)) <;> simp -implicitDefEqProofs only [hg, Int.cast_ofNat_Int, hn, go_sem, simprocAttr] <;> (try simp only [hgW] at hg) | ((first | with_reducible (first | refine AWP.seqRB k42_VsCList fun K hK => ?_ | refine AWP.lastRB k42_VsCList fun K hK => ?_ | refine AWP.seqC fun Kt Kf hKt hKf => ?_ | refine AWP.condK fun Kt Kf hKt hKf => ?_ | refine retSF_ret [] ?_ | refine retSF_end [] ?_)); simp -implicitDefEqProofs only [Int.cast_ofNat_Int, hn, go_sem, simprocAttr])) <;> try simp (disch := omega) only [wrW])
        | with_reducible refine And.intro (by first | omega | (simp only [hgW]; omega)) ?_
        | (exfalso; omega)
      refine ⟨_, ?_, ?_, .inr ⟨rfl, rfl, z.e, [.sl (some ((0, 999), 0)) zs1.isEmpty 2 (zs1.map fun z => pcAV z.tag z.body)], ?_, he, rfl⟩⟩
      · simp -implicitDefEqProofs only [Int.cast_ofNat_Int, hn, go_sem, simprocAttr]
        try rfl
      · rfl
      · rw [hz, errZ_app, of_decide_eq_true h1]
        simp
  · intro h1
    simp -implicitDefEqProofs only [Int.cast_ofNat_Int, hn, go_sem, simprocAttr]
    repeat' first
      | with_reducible (first | refine AWP.seqA ?_ | refine AWP.seqB ?_ | refine AWP.block ?_ | refine AWP.skipN ?_ | refine AWP.skip ?_ | refine AWP.exit ?_ | refine AWP.ret ?_ | refine LoopN.succ ?_ | refine thenS_n ?_ | refine thenS_x ?_ | refine thenS_r ?_ | refine blockS_n ?_ | refine blockS_r ?_ | refine blockS_x ?_ | refine blockS_y (by decide) ?_)
      | ((with_reducible refine hK _ ?_); clear hK K) | ((with_reducible refine hKt ?_); clear hKt hKf Kt Kf) | ((with_reducible refine hKf ?_); clear hKt hKf Kt Kf) | ((with_reducible refine condP_split (fun hg => hKt ?_) (fun hg => hKf ?_)) <;> clear hKt hKf Kt Kf <;> (try simp only [hgW] at hg) <;> try (exfalso; omega))
      | ((first | (with_reducible refine guardP_split (fun hg => ?_) (fun hg => ?_)) <;> simp -implicitDefEqProofs only [hg, Int.cast_ofNat_Int, hn, go_sem, simprocAttr] <;> (try simp only [hgW] at hg) | ((first | with_reducible (first | refine AWP.seqRB k42_VsCList fun K hK => ?_ | refine AWP.lastRB k42_VsCList fun K hK => ?_ | refine AWP.seqC fun Kt Kf hKt hKf => ?_ | refine AWP.condK fun Kt Kf hKt hKf => ?_ | refine retSF_ret [] ?_ | refine retSF_end [] ?_)); simp -implicitDefEqProofs only [Int.cast_ofNat_Int, hn, go_sem, simprocAttr])) <;> try simp (disch := omega) only [wrW])
      | with_reducible refine And.intro (by first | omega | (simp only [hgW]; omega)) ?_
      | (exfalso; omega)
    unfold listA
    rw [if_pos (of_decide_eq_true h1)]
  · rintro e B - ⟨rfl, er, c, h1, h2, rfl⟩
    simp -implicitDefEqProofs only [Int.cast_ofNat_Int, hn, go_sem, simprocAttr]
    repeat' first
      | with_reducible (first | refine AWP.seqA ?_ | refine AWP.seqB ?_ | refine AWP.block ?_ | refine AWP.skipN ?_ | refine AWP.skip ?_ | refine AWP.exit ?_ | refine AWP.ret ?_ | refine LoopN.succ ?_ | refine thenS_n ?_ | refine thenS_x ?_ | refine thenS_r ?_ | refine blockS_n ?_ | refine blockS_r ?_ | refine blockS_x ?_ | refine blockS_y (by decide) ?_)
      | ((with_reducible refine hK _ ?_); clear hK K) | ((with_reducible refine hKt ?_); clear hKt hKf Kt Kf) | ((with_reducible refine hKf ?_); clear hKt hKf Kt Kf) | ((with_reducible refine condP_split (fun hg => hKt ?_) (fun hg => hKf ?_)) <;> clear hKt hKf Kt Kf <;> (try simp only [hgW] at hg) <;> try (exfalso; omega))
      | ((first | (with_reducible refine guardP_split (fun hg => ?_) (fun hg => ?_)) <;> simp -implicitDefEqProofs only [hg, Int.cast_ofNat_Int, hn, go_sem, simprocAttr] <;> (try simp only [hgW] at hg) | ((first | with_reducible (first | refine AWP.seqRB k42_VsCList fun K hK => ?_ | refine AWP.lastRB k42_VsCList fun K hK => ?_ | refine AWP.seqC fun Kt Kf hKt hKf => ?_ | refine AWP.condK fun Kt Kf hKt hKf => ?_ | refine retSF_ret [] ?_ | refine retSF_end [] ?_)); simp -implicitDefEqProofs only [Int.cast_ofNat_Int, hn, go_sem, simprocAttr])) <;> try simp (disch := omega) only [wrW])
      | with_reducible refine And.intro (by first | omega | (simp only [hgW]; omega)) ?_
      | (exfalso; omega)
    unfold listA
    rw [if_neg (by rw [h1]; exact h2), h1]
end Go.Proofs.Ytedjcbdhafmjiaa
