/- The law DerJoins' code answers true. -/
import Derived.Test.YtedjcbdhafmjiaaVsCLists
import Derived.Test.YtedjcbdhafmjiaaVsCAwake
open Go Go.VS
namespace Go.Proofs.Ytedjcbdhafmjiaa
set_option linter.unusedVariables false
set_option linter.unusedSimpArgs false
set_option maxRecDepth 20000
set_option maxHeartbeats 4000000
abbrev Pt := Bool × UInt8 × List UInt8
theorem sameL_of {xs ys : List Pt} (h : xs.map (·.2) = ys.map (·.2)) : sameL xs ys = true := by simp [sameL, h]
def fixT (t : UInt8) : UInt8 := if t.toNat % 32 = 31 then t - 1 else t
def fixP (p : Pt) : Pt := (p.1, fixT p.2.1, p.2.2)
def wrP (p : Pt) : List UInt8 := headOf p.2.1 p.2.2.length ++ p.2.2
theorem fixT_31 (t : UInt8) : (fixT t).toNat % 32 ≠ 31 := by
  unfold fixT
  split
  · have h1 : (1 : UInt8) ≤ t := UInt8.le_iff_toNat_le.2 (by show 1 ≤ t.toNat; omega)
    rw [UInt8.toNat_sub_of_le _ _ h1]
    show (t.toNat - 1) % 32 ≠ 31
    omega
  · assumption
theorem fixT_sub {t : UInt8} (h : t.toNat % 32 = 31) : ((fixT t).toNat : Int) = (t.toNat : Int) - 1 := by
  unfold fixT
  rw [if_pos h]
  have h1 : (1 : UInt8) ≤ t := UInt8.le_iff_toNat_le.2 (by show 1 ≤ t.toNat; omega)
  rw [UInt8.toNat_sub_of_le _ _ h1]
  show ((t.toNat - 1 : Nat) : Int) = _
  omega
theorem head_len (t : UInt8) (n : Nat) : 2 ≤ (headOf t n).length ∧ (headOf t n).length ≤ 4 := by
  unfold headOf
  repeat' split
  all_goals simp
theorem head_len3 {t : UInt8} {n : Nat} (h : n ≤ 150) : (headOf t n).length ≤ 3 := by
  unfold headOf
  split
  · simp
  · rw [if_pos (by omega)]; simp
/-- Pieces one behind the other are read one by one. -/
theorem zsS_wr : ∀ (ps : List Pt), (∀ p ∈ ps, p.2.1.toNat % 32 ≠ 31) → (ps.flatMap wrP).length ≤ 4096 → zsS (ps.flatMap wrP) = ps.map fun p => ⟨p.2.1, p.2.2, 0⟩
  | [], _, _ => rfl
  | p :: ps, h, hl => by
    have h1 := h p (by simp)
    have hh := head_len p.2.1 p.2.2.length
    simp only [List.flatMap_cons] at hl ⊢
    have hl2 := hl
    rw [List.length_append] at hl2
    have hw : (wrP p).length = (headOf p.2.1 p.2.2.length).length + p.2.2.length := by simp [wrP]
    have hne : wrP p ++ ps.flatMap wrP ≠ [] := fun e => by
      have := congrArg List.length e
      rw [List.length_append, List.length_nil] at this
      omega
    obtain ⟨r1, r2⟩ := read_write (tag := p.2.1) (bs := p.2.2) (beh := ps.flatMap wrP) h1 (by omega)
    rw [zsS_cons hne]
    have e0 : wrP p ++ ps.flatMap wrP = headOf p.2.1 p.2.2.length ++ p.2.2 ++ ps.flatMap wrP := rfl
    rw [e0, r1]
    simp only
    rw [r2]
    have e1 : (headOf p.2.1 p.2.2.length ++ p.2.2 ++ ps.flatMap wrP).drop (headOf p.2.1 p.2.2.length).length = p.2.2 ++ ps.flatMap wrP := by
      rw [List.append_assoc, List.drop_left]
    have e2 : (headOf p.2.1 p.2.2.length ++ p.2.2 ++ ps.flatMap wrP).drop ((headOf p.2.1 p.2.2.length).length + p.2.2.length) = ps.flatMap wrP := by
      rw [← List.length_append, List.drop_left]
    rw [e1, e2, List.take_left, zsS_wr ps (fun q hq => h q (by simp [hq])) (by omega)]
    rfl
theorem listA_wr (ps : List Pt) (h : ∀ p ∈ ps, p.2.1.toNat % 32 ≠ 31) (hl : (ps.flatMap wrP).length ≤ 4096) : listA (ps.flatMap wrP) = .tup [.sl none (ps.map fun p => (⟨p.2.1, p.2.2, 0⟩ : Zt)).isEmpty 2 ((ps.map fun p => (false, p.2.1, p.2.2)).map pAV), .int .i64 0] := by
  unfold listA
  rw [zsS_wr ps h hl, if_pos ?_]
  · rw [List.map_map, List.map_map]; rfl
  · unfold errZ
    rw [List.map_map]
    induction ps with
    | nil => rfl
    | cons p ps ih =>
      simp only [List.map_cons, List.sum_cons]
      rw [ih (fun q hq => h q (by simp [hq])) (by simp at hl; simp; omega)]
      rfl
theorem same_wr (ps : List Pt) : sameL (ps.map fun p => (false, p.2.1, p.2.2)) ps = true := sameL_of (by rw [List.map_map]; rfl)
theorem writeA_ok {t : UInt8} {bs : List UInt8} (h : t.toNat % 32 ≠ 31) (hl : bs.length ≤ 4000) : writeA t bs = .tup [.sl (some ((3,0),0)) false 1 ((headOf t bs.length ++ bs).map u8), .int .i64 0] := by
  have := head_len t bs.length
  unfold writeA
  rw [if_neg h, if_neg (by omega)]
/-- A sequence of pieces, written. -/
theorem seqA_wr (bs : List UInt8) (hl : bs.length ≤ 4000) : seqA (headOf 48 bs.length ++ bs) = listA bs := by
  have hh := head_len 48 bs.length
  obtain ⟨r1, r2⟩ := read_write (tag := 48) (bs := bs) (beh := []) (by decide) (by simp; omega)
  rw [List.append_nil] at r1 r2
  unfold seqA
  rw [r1]
  simp only
  rw [r2, if_pos ⟨rfl, by simp⟩, List.drop_left, List.take_length]
def doneP (ps : List Pt) (i : Nat) : List Pt := (ps.take i).map fixP
theorem doneP_succ {ps : List Pt} {i : Nat} (hi : i < ps.length) : doneP ps (i + 1) = doneP ps i ++ [fixP (ps.getD i default)] := by
  unfold doneP
  rw [List.take_add_one, List.map_append]
  simp [hi]
theorem doneP_31 (ps : List Pt) (i : Nat) : ∀ p ∈ doneP ps i, p.2.1.toNat % 32 ≠ 31 := fun p hp => by
  obtain ⟨q, _, rfl⟩ := List.mem_map.1 hp
  exact fixT_31 _
def k13_VsCJoins : List Nat := [0,2,3,4,5,6,7,8,9,10,11,12,13,14,16,17,18,19,20,31,35,46,57]
def p13_15_VsCJoins : List Nat := []
def a13_15_VsCJoins : List Nat := [0,0,3,0,0,16,63,127,255]
def o13_15_VsCJoins : List (List Nat) := [[0,1,2,4,5,3,6,7,8],[4,5,0,1,2,3,6,7,8]]
attribute [go_sem] k13_VsCJoins p13_15_VsCJoins a13_15_VsCJoins o13_15_VsCJoins
theorem f13_ok (nb : Bool) (ps : List Pt) : CallsP Try.prog 13 [.sl none nb 2 (ps.map pAV)] (.bool true) := by
  refine CallsP.intro Try.func13 rfl (by show 1 ≤ 94; decide) ?_
  rintro X hX
  have hn : X.n = 94 := hX
  unfold Try.f13
  dsimp only
  rw [entry1]
  repeat' first
    | with_reducible (first | refine AWP.seqA ?_ | refine AWP.seqB ?_ | refine AWP.block ?_ | refine AWP.skipN ?_ | refine AWP.skip ?_ | refine AWP.exit ?_ | refine AWP.ret ?_ | refine LoopN.succ ?_ | refine thenS_n ?_ | refine thenS_x ?_ | refine thenS_r ?_ | refine blockS_n ?_ | refine blockS_r ?_ | refine blockS_x ?_ | refine blockS_y (by decide) ?_)
    | ((with_reducible refine hK _ ?_); clear hK K) | ((with_reducible refine hKt ?_); clear hKt hKf Kt Kf) | ((with_reducible refine hKf ?_); clear hKt hKf Kt Kf) | ((with_reducible refine condP_split (fun hg => hKt ?_) (fun hg => hKf ?_)) <;> clear hKt hKf Kt Kf <;> (try simp only [hgW] at hg) <;> try (exfalso; omega))
    | ((first | (with_reducible refine guardP_split (fun hg => ?_) (fun hg => ?_)) <;> simp -implicitDefEqProofs only [hg, hn, go_sem, simprocAttr] <;> (try simp only [hgW] at hg) | ((first | with_reducible (first | refine AWP.seqRB k13_VsCJoins fun K hK => ?_ | refine AWP.lastRB k13_VsCJoins fun K hK => ?_ | refine AWP.seqM (id := 15) k13_VsCJoins p13_15_VsCJoins a13_15_VsCJoins o13_15_VsCJoins mixed (by kernel_rfl) (by kernel_rfl) (by with_unfolding_all rfl) fun K hK => ?_ | refine AWP.lastM (id := 15) k13_VsCJoins p13_15_VsCJoins a13_15_VsCJoins o13_15_VsCJoins mixed (by kernel_rfl) (by kernel_rfl) (by with_unfolding_all rfl) fun K hK => ?_ | refine AWP.seqC fun Kt Kf hKt hKf => ?_ | refine AWP.condK fun Kt Kf hKt hKf => ?_ | refine retS_ret ?_ | refine retS_end ?_) | refine callE_P (f16_ok) ?_ | refine callP_intro2 (f16_ok) ?_ | refine callE_X (f16_ok) ?_); simp -implicitDefEqProofs only [hn, go_sem, simprocAttr])) <;> try simp (disch := omega) only [wrW])
    | with_reducible refine And.intro (by first | omega | (simp only [hgW]; omega)) ?_
    | (exfalso; omega)
  refine AWP.adopt 3 (0, 998) 0 1 (by rfl) ?_
  refine AWP.adopt 4 (0, 999) 0 2 (by rfl) ?_
  refine AWP.loopX [3, 4, 17, 18, 19] [6] (fun i : Nat => St.mk (lk [(3, .sl (some ((0, 998), 0)) (decide (i = 0)) 1 (((doneP ps i).flatMap wrP).map u8)), (4, .sl (some ((0, 999), 0)) (decide (i = 0)) 2 ((doneP ps i).map pAV)), (17, .sl none nb 2 (ps.map pAV)), (18, .int .i64 (ps.length : Int)), (19, .int .i64 (i : Int))]) (lkB []) (hasS []) (hasS []) (hasN []) (lkR []))
    (fun i => i ≤ ps.length ∧ i ≤ 21 ∧ ((doneP ps i).flatMap wrP).length ≤ i * 153) (fun i => ps.length - i) 0 ?_ ⟨by omega, by omega, by simp [doneP]⟩ ?_
  · simp -implicitDefEqProofs only [hn, go_sem, simprocAttr]
    try rfl
  · rintro i ⟨h1, h2, h3⟩
    have hdl : (doneP ps i).length = i := by simp [doneP]; omega
    by_cases hi : i < ps.length
    · obtain ⟨pn, pt, pb, hpe⟩ : ∃ pn pt pb, ps.getD i default = (pn, pt, pb) := ⟨_, _, _, rfl⟩
      have px : pAV (ps.getD i default) = .agg [.int .u8 (pt.toNat : Int), .sl none pn 1 (pb.map u8)] := by rw [hpe]; rfl
      have hs := doneP_succ hi
      rw [hpe] at hs
      have ht := pt.toNat_lt
      by_cases hb : i ≤ 20 ∧ pb.length ≤ 150
      · obtain ⟨hb1, hb2⟩ := hb
        have hh := head_len3 (t := fixT pt) hb2
        have hh2 := head_len (fixT pt) pb.length
        have c38 := f38_ok (fixT pt) pn pb (by omega)
        rw [writeA_ok (fixT_31 pt) (by omega)] at c38
        have hs2 : (doneP ps (i + 1)).flatMap wrP = (doneP ps i).flatMap wrP ++ (headOf (fixT pt) pb.length ++ pb) := by
          rw [hs, List.flatMap_append]; simp [fixP, wrP]
        have hs3 : (doneP ps (i + 1)).map pAV = (doneP ps i).map pAV ++ [.agg [.int .u8 ((fixT pt).toNat : Int), .sl none pn 1 (pb.map u8)]] := by
          rw [hs, List.map_append]; rfl
        have hwl : (headOf (fixT pt) pb.length ++ pb).length ≤ 153 ∧ 2 ≤ (headOf (fixT pt) pb.length ++ pb).length := by rw [List.length_append]; omega
        generalize headOf (fixT pt) pb.length ++ pb = w at c38 hs2 hwl
        have hl2 : ((doneP ps (i + 1)).flatMap wrP).length ≤ (i + 1) * 153 := by rw [hs2, List.length_append]; omega
        have hwe : (w.map u8).isEmpty = false := by cases w with
          | nil => simp at hwl
          | cons _ _ => rfl
        by_cases h31 : pt.toNat % 32 = 31
        · rw [fixT_sub h31] at c38 hs3
          repeat' first
            | with_reducible (first | refine AWP.seqA ?_ | refine AWP.seqB ?_ | refine AWP.block ?_ | refine AWP.skipN ?_ | refine AWP.skip ?_ | refine AWP.exit ?_ | refine AWP.ret ?_ | refine LoopN.succ ?_ | refine thenS_n ?_ | refine thenS_x ?_ | refine thenS_r ?_ | refine blockS_n ?_ | refine blockS_r ?_ | refine blockS_x ?_ | refine blockS_y (by decide) ?_)
            | ((with_reducible refine hK _ ?_); clear hK K) | ((with_reducible refine hKt ?_); clear hKt hKf Kt Kf) | ((with_reducible refine hKf ?_); clear hKt hKf Kt Kf) | ((with_reducible refine condP_split (fun hg => hKt ?_) (fun hg => hKf ?_)) <;> clear hKt hKf Kt Kf <;> (try simp only [hgW] at hg) <;> try (exfalso; omega))
            | ((first | (with_reducible refine guardP_split (fun hg => ?_) (fun hg => ?_)) <;> simp -implicitDefEqProofs only [hg, px, hn, go_sem, simprocAttr] <;> (try simp only [hgW] at hg) | ((first | with_reducible (first | refine AWP.seqRB k13_VsCJoins fun K hK => ?_ | refine AWP.lastRB k13_VsCJoins fun K hK => ?_ | refine AWP.seqM (id := 15) k13_VsCJoins p13_15_VsCJoins a13_15_VsCJoins o13_15_VsCJoins mixed (by kernel_rfl) (by kernel_rfl) (by with_unfolding_all rfl) fun K hK => ?_ | refine AWP.lastM (id := 15) k13_VsCJoins p13_15_VsCJoins a13_15_VsCJoins o13_15_VsCJoins mixed (by kernel_rfl) (by kernel_rfl) (by with_unfolding_all rfl) fun K hK => ?_ | refine AWP.seqC fun Kt Kf hKt hKf => ?_ | refine AWP.condK fun Kt Kf hKt hKf => ?_ | refine retS_ret ?_ | refine retS_end ?_) | refine callE_P (c38) ?_ | refine callP_intro2 (c38) ?_ | refine callE_X (c38) ?_); simp -implicitDefEqProofs only [px, hn, go_sem, simprocAttr])) <;> try simp (disch := omega) only [wrW])
            | with_reducible refine And.intro (by first | omega | (simp only [hgW]; omega)) ?_
            | (exfalso; omega)
          refine ⟨i + 1, ?_, ⟨by omega, by omega, hl2⟩, by omega⟩
          simp -implicitDefEqProofs only [hs2, hs3, hwe, hn, go_sem, simprocAttr]
          try simp
        · have e : fixT pt = pt := if_neg h31
          rw [e] at c38 hs3
          repeat' first
            | with_reducible (first | refine AWP.seqA ?_ | refine AWP.seqB ?_ | refine AWP.block ?_ | refine AWP.skipN ?_ | refine AWP.skip ?_ | refine AWP.exit ?_ | refine AWP.ret ?_ | refine LoopN.succ ?_ | refine thenS_n ?_ | refine thenS_x ?_ | refine thenS_r ?_ | refine blockS_n ?_ | refine blockS_r ?_ | refine blockS_x ?_ | refine blockS_y (by decide) ?_)
            | ((with_reducible refine hK _ ?_); clear hK K) | ((with_reducible refine hKt ?_); clear hKt hKf Kt Kf) | ((with_reducible refine hKf ?_); clear hKt hKf Kt Kf) | ((with_reducible refine condP_split (fun hg => hKt ?_) (fun hg => hKf ?_)) <;> clear hKt hKf Kt Kf <;> (try simp only [hgW] at hg) <;> try (exfalso; omega))
            | ((first | (with_reducible refine guardP_split (fun hg => ?_) (fun hg => ?_)) <;> simp -implicitDefEqProofs only [hg, px, hn, go_sem, simprocAttr] <;> (try simp only [hgW] at hg) | ((first | with_reducible (first | refine AWP.seqRB k13_VsCJoins fun K hK => ?_ | refine AWP.lastRB k13_VsCJoins fun K hK => ?_ | refine AWP.seqM (id := 15) k13_VsCJoins p13_15_VsCJoins a13_15_VsCJoins o13_15_VsCJoins mixed (by kernel_rfl) (by kernel_rfl) (by with_unfolding_all rfl) fun K hK => ?_ | refine AWP.lastM (id := 15) k13_VsCJoins p13_15_VsCJoins a13_15_VsCJoins o13_15_VsCJoins mixed (by kernel_rfl) (by kernel_rfl) (by with_unfolding_all rfl) fun K hK => ?_ | refine AWP.seqC fun Kt Kf hKt hKf => ?_ | refine AWP.condK fun Kt Kf hKt hKf => ?_ | refine retS_ret ?_ | refine retS_end ?_) | refine callE_P (c38) ?_ | refine callP_intro2 (c38) ?_ | refine callE_X (c38) ?_); simp -implicitDefEqProofs only [px, hn, go_sem, simprocAttr])) <;> try simp (disch := omega) only [wrW])
            | with_reducible refine And.intro (by first | omega | (simp only [hgW]; omega)) ?_
            | (exfalso; omega)
          refine ⟨i + 1, ?_, ⟨by omega, by omega, hl2⟩, by omega⟩
          simp -implicitDefEqProofs only [hs2, hs3, hwe, hn, go_sem, simprocAttr]
          try simp
      · skip
        repeat' first
          | with_reducible (first | refine AWP.seqA ?_ | refine AWP.seqB ?_ | refine AWP.block ?_ | refine AWP.skipN ?_ | refine AWP.skip ?_ | refine AWP.exit ?_ | refine AWP.ret ?_ | refine LoopN.succ ?_ | refine thenS_n ?_ | refine thenS_x ?_ | refine thenS_r ?_ | refine blockS_n ?_ | refine blockS_r ?_ | refine blockS_x ?_ | refine blockS_y (by decide) ?_)
          | ((with_reducible refine hK _ ?_); clear hK K) | ((with_reducible refine hKt ?_); clear hKt hKf Kt Kf) | ((with_reducible refine hKf ?_); clear hKt hKf Kt Kf) | ((with_reducible refine condP_split (fun hg => hKt ?_) (fun hg => hKf ?_)) <;> clear hKt hKf Kt Kf <;> (try simp only [hgW] at hg) <;> try (exfalso; omega))
          | ((first | (with_reducible refine guardP_split (fun hg => ?_) (fun hg => ?_)) <;> simp -implicitDefEqProofs only [hg, px, hn, go_sem, simprocAttr] <;> (try simp only [hgW] at hg) | ((first | with_reducible (first | refine AWP.seqRB k13_VsCJoins fun K hK => ?_ | refine AWP.lastRB k13_VsCJoins fun K hK => ?_ | refine AWP.seqM (id := 15) k13_VsCJoins p13_15_VsCJoins a13_15_VsCJoins o13_15_VsCJoins mixed (by kernel_rfl) (by kernel_rfl) (by with_unfolding_all rfl) fun K hK => ?_ | refine AWP.lastM (id := 15) k13_VsCJoins p13_15_VsCJoins a13_15_VsCJoins o13_15_VsCJoins mixed (by kernel_rfl) (by kernel_rfl) (by with_unfolding_all rfl) fun K hK => ?_ | refine AWP.seqC fun Kt Kf hKt hKf => ?_ | refine AWP.condK fun Kt Kf hKt hKf => ?_ | refine retS_ret ?_ | refine retS_end ?_)); simp -implicitDefEqProofs only [px, hn, go_sem, simprocAttr])) <;> try simp (disch := omega) only [wrW])
          | with_reducible refine And.intro (by first | omega | (simp only [hgW]; omega)) ?_
          | (exfalso; omega)
    · have hd : doneP ps i = doneP ps ps.length := by rw [show i = ps.length by omega]
      by_cases hW : ((doneP ps i).flatMap wrP).length ≤ 4000
      · have hh := head_len 48 ((doneP ps i).flatMap wrP).length
        have hnil : decide (i = 0) = true → (doneP ps i).flatMap wrP = [] := fun h => by
          rw [of_decide_eq_true h]; rfl
        have c42 := f42_ok (decide (i = 0)) ((doneP ps i).flatMap wrP) hnil (by omega)
        have c38 := f38_ok 48 (decide (i = 0)) ((doneP ps i).flatMap wrP) (by omega)
        rw [writeA_ok (by decide) hW] at c38
        have c45 := f45_ok false (headOf 48 ((doneP ps i).flatMap wrP).length ++ (doneP ps i).flatMap wrP) (by simp) (by rw [List.length_append]; omega)
        rw [seqA_wr _ hW] at c45
        rw [listA_wr _ (doneP_31 ps i) (by omega)] at c42 c45
        rw [show ((UInt8.toNat 48 : Nat) : Int) = 48 from rfl] at c38
        have c44 := f44_ok ((doneP ps i).map fun p => (⟨p.2.1, p.2.2, 0⟩ : Zt)).isEmpty (decide (i = 0)) ((doneP ps i).map fun p => (false, p.2.1, p.2.2)) (doneP ps i) (by simp; omega)
        rw [same_wr] at c44
        repeat' first
          | with_reducible (first | refine AWP.seqA ?_ | refine AWP.seqB ?_ | refine AWP.block ?_ | refine AWP.skipN ?_ | refine AWP.skip ?_ | refine AWP.exit ?_ | refine AWP.ret ?_ | refine LoopN.succ ?_ | refine thenS_n ?_ | refine thenS_x ?_ | refine thenS_r ?_ | refine blockS_n ?_ | refine blockS_r ?_ | refine blockS_x ?_ | refine blockS_y (by decide) ?_)
          | ((with_reducible refine hK _ ?_); clear hK K) | ((with_reducible refine hKt ?_); clear hKt hKf Kt Kf) | ((with_reducible refine hKf ?_); clear hKt hKf Kt Kf) | ((with_reducible refine condP_split (fun hg => hKt ?_) (fun hg => hKf ?_)) <;> clear hKt hKf Kt Kf <;> (try simp only [hgW] at hg) <;> try (exfalso; omega))
          | ((first | (with_reducible refine guardP_split (fun hg => ?_) (fun hg => ?_)) <;> simp -implicitDefEqProofs only [hg, hn, go_sem, simprocAttr] <;> (try simp only [hgW] at hg) | ((first | with_reducible (first | refine AWP.seqRB k13_VsCJoins fun K hK => ?_ | refine AWP.lastRB k13_VsCJoins fun K hK => ?_ | refine AWP.seqM (id := 15) k13_VsCJoins p13_15_VsCJoins a13_15_VsCJoins o13_15_VsCJoins mixed (by kernel_rfl) (by kernel_rfl) (by with_unfolding_all rfl) fun K hK => ?_ | refine AWP.lastM (id := 15) k13_VsCJoins p13_15_VsCJoins a13_15_VsCJoins o13_15_VsCJoins mixed (by kernel_rfl) (by kernel_rfl) (by with_unfolding_all rfl) fun K hK => ?_ | refine AWP.seqC fun Kt Kf hKt hKf => ?_ | refine AWP.condK fun Kt Kf hKt hKf => ?_ | refine retS_ret ?_ | refine retS_end ?_) | refine callE_P (c42) ?_ | refine callP_intro2 (c42) ?_ | refine callE_X (c42) ?_ | refine callE_P (c38) ?_ | refine callP_intro2 (c38) ?_ | refine callE_X (c38) ?_ | refine callE_P (c45) ?_ | refine callP_intro2 (c45) ?_ | refine callE_X (c45) ?_ | refine callE_P (c44) ?_ | refine callP_intro2 (c44) ?_ | refine callE_X (c44) ?_); simp -implicitDefEqProofs only [hn, go_sem, simprocAttr])) <;> try simp (disch := omega) only [wrW])
          | with_reducible refine And.intro (by first | omega | (simp only [hgW]; omega)) ?_
          | (exfalso; omega)
        all_goals trace_state
      · skip
        repeat' first
          | with_reducible (first | refine AWP.seqA ?_ | refine AWP.seqB ?_ | refine AWP.block ?_ | refine AWP.skipN ?_ | refine AWP.skip ?_ | refine AWP.exit ?_ | refine AWP.ret ?_ | refine LoopN.succ ?_ | refine thenS_n ?_ | refine thenS_x ?_ | refine thenS_r ?_ | refine blockS_n ?_ | refine blockS_r ?_ | refine blockS_x ?_ | refine blockS_y (by decide) ?_)
          | ((with_reducible refine hK _ ?_); clear hK K) | ((with_reducible refine hKt ?_); clear hKt hKf Kt Kf) | ((with_reducible refine hKf ?_); clear hKt hKf Kt Kf) | ((with_reducible refine condP_split (fun hg => hKt ?_) (fun hg => hKf ?_)) <;> clear hKt hKf Kt Kf <;> (try simp only [hgW] at hg) <;> try (exfalso; omega))
          | ((first | (with_reducible refine guardP_split (fun hg => ?_) (fun hg => ?_)) <;> simp -implicitDefEqProofs only [hg, hn, go_sem, simprocAttr] <;> (try simp only [hgW] at hg) | ((first | with_reducible (first | refine AWP.seqRB k13_VsCJoins fun K hK => ?_ | refine AWP.lastRB k13_VsCJoins fun K hK => ?_ | refine AWP.seqM (id := 15) k13_VsCJoins p13_15_VsCJoins a13_15_VsCJoins o13_15_VsCJoins mixed (by kernel_rfl) (by kernel_rfl) (by with_unfolding_all rfl) fun K hK => ?_ | refine AWP.lastM (id := 15) k13_VsCJoins p13_15_VsCJoins a13_15_VsCJoins o13_15_VsCJoins mixed (by kernel_rfl) (by kernel_rfl) (by with_unfolding_all rfl) fun K hK => ?_ | refine AWP.seqC fun Kt Kf hKt hKf => ?_ | refine AWP.condK fun Kt Kf hKt hKf => ?_ | refine retS_ret ?_ | refine retS_end ?_)); simp -implicitDefEqProofs only [hn, go_sem, simprocAttr])) <;> try simp (disch := omega) only [wrW])
          | with_reducible refine And.intro (by first | omega | (simp only [hgW]; omega)) ?_
          | (exfalso; omega)
end Go.Proofs.Ytedjcbdhafmjiaa
