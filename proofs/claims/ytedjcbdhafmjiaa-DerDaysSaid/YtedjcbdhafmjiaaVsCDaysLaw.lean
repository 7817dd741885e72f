/- The law DerDays' code answers true. -/
import Derived.Test.YtedjcbdhafmjiaaVsCDay3
import Derived.Test.YtedjcbdhafmjiaaVsCAwake2
open Go Go.VS
namespace Go.Proofs.Ytedjcbdhafmjiaa
set_option linter.unusedVariables false
set_option linter.unusedSimpArgs false
set_option maxRecDepth 20000
set_option maxHeartbeats 4000000
def k7_VsCDaysLaw : List Nat := [0,1,4,5,6,7,8,9,10,12]
attribute [go_sem] k7_VsCDaysLaw
theorem f7_ok (day : UInt16) (sec : UInt32) : CallsP Try.prog 7 [.int .u16 day.toNat, .int .u32 sec.toNat] (.bool true) := by
  have hday := day.toNat_lt
  have hsec := sec.toNat_lt
  obtain ⟨Y, m, d, hY, hm, hd, he⟩ := date_ex (day.toNat : Int) (by omega)
  have hs : 0 ≤ (sec.toNat : Int) % 86400 ∧ (sec.toNat : Int) % 86400 < 86400 := by omega
  have c32 := f32_ok (day.toNat : Int) ((sec.toNat : Int) % 86400) hs Y m d hY hm hd he
  have ht := read_time hY hm hd hs
  rw [← he] at ht
  have c29 := f29_ok (UInt8.ofNat (wrTag Y).toNat) false (wrFull Y m d ((sec.toNat : Int) % 86400))
  rw [ht] at c29
  have e1 : (((UInt8.ofNat (wrTag Y).toNat).toNat : Nat) : Int) = wrTag Y := by unfold wrTag; split <;> rfl
  rw [e1] at c29
  simp only [timeA] at c29
  have hok : callOk Try.prog 32 = true := rfl
  refine CallsP.intro Try.func7 rfl (by show 2 ≤ 39; decide) ?_
  rintro X hX
  have hn : X.n = 39 := hX
  unfold Try.f7
  dsimp only
  rw [entry2]
  repeat' first
    | with_reducible (first | refine AWP.seqA ?_ | refine AWP.seqB ?_ | refine AWP.block ?_ | refine AWP.skipN ?_ | refine AWP.skip ?_ | refine AWP.exit ?_ | refine AWP.ret ?_ | refine AWP.loopT 3 ?_ | refine AWP.unroll 3 ?_ | refine LoopN.succ ?_ | refine thenS_n ?_ | refine thenS_x ?_ | refine thenS_r ?_ | refine blockS_n ?_ | refine blockS_r ?_ | refine blockS_x ?_ | refine blockS_y (by decide) ?_)
    | ((with_reducible refine hK _ ?_); clear hK K) | ((with_reducible refine hKt ?_); clear hKt hKf Kt Kf) | ((with_reducible refine hKf ?_); clear hKt hKf Kt Kf) | ((with_reducible refine condP_split (fun hg => hKt ?_) (fun hg => hKf ?_)) <;> clear hKt hKf Kt Kf <;> (try simp only [hgW] at hg) <;> try (exfalso; omega))
    | ((with_reducible refine callE_B3 (c32) ?_); simp -implicitDefEqProofs only [eqOk_true, hok, Array.size_empty, List.size_toArray, List.length_nil, hn, go_sem, simprocAttr]; (skip; try simp (disch := omega) only [wrW]); fail_if_success (with_reducible refine eqOk_mk ?_))
    | ((first | (with_reducible refine guardP_split (fun hg => ?_) (fun hg => ?_)) <;> simp -implicitDefEqProofs only [hg, hok, Array.size_empty, List.size_toArray, List.length_nil, hn, go_sem, simprocAttr] <;> (try simp only [hgW] at hg) | ((first | with_reducible (first | refine AWP.seqRB k7_VsCDaysLaw fun K hK => ?_ | refine AWP.lastRB k7_VsCDaysLaw fun K hK => ?_ | refine AWP.seqC fun Kt Kf hKt hKf => ?_ | refine AWP.condK fun Kt Kf hKt hKf => ?_ | refine retS_ret ?_ | refine retS_end ?_) | refine callE_P (f16_ok) ?_ | refine callP_intro2 (f16_ok) ?_ | refine callE_X (f16_ok) ?_ | refine callE_P (c29) ?_ | refine callP_intro2 (c29) ?_ | refine callE_X (c29) ?_); simp -implicitDefEqProofs only [hok, Array.size_empty, List.size_toArray, List.length_nil, hn, go_sem, simprocAttr])) <;> try simp (disch := omega) only [wrW])
    | with_reducible refine And.intro (by first | omega | (simp only [hgW]; omega)) ?_
    | (exfalso; omega)
  all_goals trace_state
end Go.Proofs.Ytedjcbdhafmjiaa
