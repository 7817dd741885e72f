/- What der.Read answers: for any bytes of at most any length, the piece that stands first, or why there is none. -/
import Derived.Test.YtedjcbdhafmjiaaVsTy
open Go Go.VS
namespace Go.Proofs.Ytedjcbdhafmjiaa
set_option linter.unusedVariables false
set_option linter.unusedSimpArgs false
set_option maxRecDepth 20000
set_option maxHeartbeats 4000000
def k53_VsCRead : List Nat := [0,2,4]
attribute [go_sem] k53_VsCRead
theorem f53_ok (l : List AV) (hl : l.length ≤ 100000) : CallsP Try.prog 53 [.sl none false 1 l] (.sl (some ((3,0),0)) false 1 l) := by
  refine CallsP.intro Try.func53 rfl (by show 1 ≤ 8; decide) ?_
  rintro X hX
  have hn : X.n = 8 := hX
  unfold Try.f53
  dsimp only
  rw [entry1]
  repeat' first
    | with_reducible (first | refine AWP.seqA ?_ | refine AWP.seqB ?_ | refine AWP.block ?_ | refine AWP.skipN ?_ | refine AWP.skip ?_ | refine AWP.exit ?_ | refine AWP.ret ?_ | refine AWP.loopT 3 ?_ | refine AWP.unroll 3 ?_ | refine LoopN.succ ?_ | refine thenS_n ?_ | refine thenS_x ?_ | refine thenS_r ?_ | refine blockS_n ?_ | refine blockS_r ?_ | refine blockS_x ?_ | refine blockS_y (by decide) ?_)
    | ((with_reducible refine hK _ ?_); clear hK K) | ((with_reducible refine hKt ?_); clear hKt hKf Kt Kf) | ((with_reducible refine hKf ?_); clear hKt hKf Kt Kf) | ((with_reducible refine condP_split (fun hg => hKt ?_) (fun hg => hKf ?_)) <;> clear hKt hKf Kt Kf <;> (try simp only [hgW] at hg) <;> try (exfalso; omega))
    | ((first | (with_reducible refine guardP_split (fun hg => ?_) (fun hg => ?_)) <;> simp -implicitDefEqProofs only [hg, hn, go_sem, simprocAttr] <;> (try simp only [hgW] at hg) | ((first | with_reducible (first | refine AWP.seqRB k53_VsCRead fun K hK => ?_ | refine AWP.lastRB k53_VsCRead fun K hK => ?_ | refine AWP.seqC fun Kt Kf hKt hKf => ?_ | refine AWP.condK fun Kt Kf hKt hKf => ?_ | refine retS_ret ?_ | refine retS_end ?_)); simp -implicitDefEqProofs only [hn, go_sem, simprocAttr])) <;> try simp (disch := omega) only [wrW])
    | with_reducible refine And.intro (by first | omega | (simp only [hgW]; omega)) ?_
    | (exfalso; omega)

/-- Where a piece's content begins, and how long it is; or why it is none. -/
def readSpec (bs : List UInt8) : Int ⊕ (Nat × Nat) :=
  if 4096 < bs.length then .inl 3
  else if bs.length < 2 then .inl 30
  else if (bs.getD 0 default).toNat % 32 = 31 then .inl 30
  else
    let n := (bs.getD 1 default).toNat
    if n < 128 then (if bs.length - 2 < n then .inl 30 else .inr (2, n))
    else if n < 129 ∨ 130 < n then .inl 30
    else if bs.length - 2 < n - 128 then .inl 30
    else if (bs.getD 2 default).toNat = 0 then .inl 30
    else if n = 129 then
        let m := (bs.getD 2 default).toNat
        if m < 128 then .inl 30 else if bs.length - 3 < m then .inl 30 else .inr (3, m)
    else
        let m := (bs.getD 2 default).toNat * 256 + (bs.getD 3 default).toNat
        if bs.length - 4 < m then .inl 30 else .inr (4, m)
def readA (bs : List UInt8) : AV :=
  match readSpec bs with
  | .inl e => .tup [.agg [.int .u8 0, .sl none true 1 []], .sl none true 1 [], .int .i64 e]
  | .inr (h, n) => .tup [.agg [.int .u8 ((bs.getD 0 default).toNat : Int), .sl (some ((3,0),0)) false 1 (((bs.drop h).take n).map u8)], .sl (some ((3,1),0)) false 1 ((bs.drop (h + n)).map u8), .int .i64 0]
def k40_VsCRead : List Nat := [0,2,3,4,5,6,7,9,12,23,32,52,56,57,58,59,69,77]
def a40_5_VsCRead : List Nat := [0,1,3,7,0,16,15,127]
def o40_5_VsCRead : List Nat := [0,1,2,3,4,5,6,7]
def a40_21_VsCRead : List Nat := [0,1,3,0,0,24,56,127,0,0,768,1912,4095,8191,16383]
def o40_21_VsCRead : List Nat := [3,4,5,6,8,9,10,11,0,1,2,7,12,13,14]
attribute [go_sem] k40_VsCRead a40_5_VsCRead o40_5_VsCRead a40_21_VsCRead o40_21_VsCRead
theorem f40_ok (bs : List UInt8) : CallsP Try.prog 40 [.sl none false 1 (bs.map u8)] (readA bs) := by
  refine CallsP.intro Try.func40 rfl (by show 1 ≤ 91; decide) ?_
  rintro X hX
  have hn : X.n = 91 := hX
  unfold Try.f40
  dsimp only
  rw [entry1]
  have b1 := (bs.getD 1 default).toNat_lt
  have b2 := (bs.getD 2 default).toNat_lt
  have b3 := (bs.getD 3 default).toNat_lt
  repeat' first
    | with_reducible (first | refine AWP.seqA ?_ | refine AWP.seqB ?_ | refine AWP.block ?_ | refine AWP.skipN ?_ | refine AWP.skip ?_ | refine AWP.exit ?_ | refine AWP.ret ?_ | refine AWP.loopT 3 ?_ | refine AWP.unroll 3 ?_ | refine LoopN.succ ?_ | refine thenS_n ?_ | refine thenS_x ?_ | refine thenS_r ?_ | refine blockS_n ?_ | refine blockS_r ?_ | refine blockS_x ?_ | refine blockS_y (by decide) ?_)
    | ((with_reducible refine hK _ ?_); clear hK K) | ((with_reducible refine hKt ?_); clear hKt hKf Kt Kf) | ((with_reducible refine hKf ?_); clear hKt hKf Kt Kf) | ((with_reducible refine condP_split (fun hg => hKt ?_) (fun hg => hKf ?_)) <;> clear hKt hKf Kt Kf <;> (try simp only [hgW] at hg) <;> try (exfalso; omega))
    | ((first | (with_reducible refine guardP_split (fun hg => ?_) (fun hg => ?_)) <;> simp -implicitDefEqProofs only [hg, u8, hn, go_sem, simprocAttr] <;> (try simp only [hgW] at hg) | ((first | with_reducible (first | refine AWP.seqRB k40_VsCRead fun K hK => ?_ | refine AWP.lastRB k40_VsCRead fun K hK => ?_ | refine AWP.seqD (id := 5) k40_VsCRead a40_5_VsCRead o40_5_VsCRead mixed (by kernel_rfl) (by kernel_rfl) fun K hK => ?_ | refine AWP.lastD (id := 5) k40_VsCRead a40_5_VsCRead o40_5_VsCRead mixed (by kernel_rfl) (by kernel_rfl) fun K hK => ?_ | refine AWP.seqD (id := 21) k40_VsCRead a40_21_VsCRead o40_21_VsCRead mixed (by kernel_rfl) (by kernel_rfl) fun K hK => ?_ | refine AWP.lastD (id := 21) k40_VsCRead a40_21_VsCRead o40_21_VsCRead mixed (by kernel_rfl) (by kernel_rfl) fun K hK => ?_ | refine AWP.seqC fun Kt Kf hKt hKf => ?_ | refine AWP.condK fun Kt Kf hKt hKf => ?_ | refine retS_ret ?_ | refine retS_end ?_) | refine callE_P (f53_ok _ (by first | omega | (simp only [List.length_take, List.length_drop, List.length_map]; omega))) ?_ | refine callP_intro2 (f53_ok _ (by first | omega | (simp only [List.length_take, List.length_drop, List.length_map]; omega))) ?_ | refine callE_X (f53_ok _ (by first | omega | (simp only [List.length_take, List.length_drop, List.length_map]; omega))) ?_); simp -implicitDefEqProofs only [u8, hn, go_sem, simprocAttr])) <;> try simp (disch := omega) only [wrW])
    | with_reducible refine And.intro (by first | omega | (simp only [hgW]; omega)) ?_
    | (exfalso; omega)
  all_goals clear hX hn X
  all_goals simp only [readA, readSpec]
  all_goals repeat (first | rw [if_pos (by omega)] | rw [if_neg (by omega)])
  all_goals first
    | done
    | rfl
    | (have e1 : ((bs.getD 1 default).toNat - 128 : Int).toNat = 2 := by omega
       have e2 : (((bs.getD 2 default).toNat : Int) * 256 + ((bs.getD 3 default).toNat : Int)).toNat = (bs.getD 2 default).toNat * 256 + (bs.getD 3 default).toNat := by omega
       simp only [e1, e2, List.drop_drop, Nat.reduceAdd]; try rfl)
    | (have e1 : ((bs.getD 1 default).toNat - 128 : Int).toNat = 1 := by omega
       simp only [e1, List.drop_drop, Nat.reduceAdd]; try rfl)
    | (simp only [List.drop_drop]; try rfl)
    | trace_state
theorem f40_nil : CallsP Try.prog 40 [.sl none true 1 []] (readA []) := by
  refine CallsP.intro Try.func40 rfl (by show 1 ≤ 91; decide) ?_
  rintro X hX
  have hn : X.n = 91 := hX
  unfold Try.f40
  dsimp only
  rw [entry1]
  repeat' first
    | with_reducible (first | refine AWP.seqA ?_ | refine AWP.seqB ?_ | refine AWP.block ?_ | refine AWP.skipN ?_ | refine AWP.skip ?_ | refine AWP.exit ?_ | refine AWP.ret ?_ | refine AWP.loopT 3 ?_ | refine AWP.unroll 3 ?_ | refine LoopN.succ ?_ | refine thenS_n ?_ | refine thenS_x ?_ | refine thenS_r ?_ | refine blockS_n ?_ | refine blockS_r ?_ | refine blockS_x ?_ | refine blockS_y (by decide) ?_)
    | ((with_reducible refine hK _ ?_); clear hK K) | ((with_reducible refine hKt ?_); clear hKt hKf Kt Kf) | ((with_reducible refine hKf ?_); clear hKt hKf Kt Kf) | ((with_reducible refine condP_split (fun hg => hKt ?_) (fun hg => hKf ?_)) <;> clear hKt hKf Kt Kf <;> (try simp only [hgW] at hg) <;> try (exfalso; omega))
    | ((first | (with_reducible refine guardP_split (fun hg => ?_) (fun hg => ?_)) <;> simp -implicitDefEqProofs only [hg, Int.cast_ofNat_Int, hn, go_sem, simprocAttr] <;> (try simp only [hgW] at hg) | ((first | with_reducible (first | refine AWP.seqRB k40_VsCRead fun K hK => ?_ | refine AWP.lastRB k40_VsCRead fun K hK => ?_ | refine AWP.seqD (id := 5) k40_VsCRead a40_5_VsCRead o40_5_VsCRead mixed (by kernel_rfl) (by kernel_rfl) fun K hK => ?_ | refine AWP.lastD (id := 5) k40_VsCRead a40_5_VsCRead o40_5_VsCRead mixed (by kernel_rfl) (by kernel_rfl) fun K hK => ?_ | refine AWP.seqD (id := 21) k40_VsCRead a40_21_VsCRead o40_21_VsCRead mixed (by kernel_rfl) (by kernel_rfl) fun K hK => ?_ | refine AWP.lastD (id := 21) k40_VsCRead a40_21_VsCRead o40_21_VsCRead mixed (by kernel_rfl) (by kernel_rfl) fun K hK => ?_ | refine AWP.seqC fun Kt Kf hKt hKf => ?_ | refine AWP.condK fun Kt Kf hKt hKf => ?_ | refine retS_ret ?_ | refine retS_end ?_)); simp -implicitDefEqProofs only [Int.cast_ofNat_Int, hn, go_sem, simprocAttr])) <;> try simp (disch := omega) only [wrW])
    | with_reducible refine And.intro (by first | omega | (simp only [hgW]; omega)) ?_
    | (exfalso; omega)
  all_goals rfl
theorem f40_any (nb : Bool) (bs : List UInt8) (h : nb = true → bs = []) : CallsP Try.prog 40 [.sl none nb 1 (bs.map u8)] (readA bs) := by
  cases nb with
  | false => exact f40_ok bs
  | true => rw [h rfl]; exact f40_nil
end Go.Proofs.Ytedjcbdhafmjiaa
