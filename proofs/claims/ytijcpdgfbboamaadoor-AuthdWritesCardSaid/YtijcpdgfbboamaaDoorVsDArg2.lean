/- What an authenticator says, as an argument. -/
import Derived.Test.YtijcpdgfbboamaaDoorVsDArg
import Derived.Test.YtijcpdgfbboamaaDoorVsDMade
open Go Go.VS
namespace Go.Proofs.YtijcpdgfbboamaaDoor
set_option linter.unusedSimpArgs false
set_option linter.unusedVariables false
theorem ad_arg {f : Nat} {a : AV} (h : argOk Tryd.prog f 48 a) : ∃ d : AD, a = d.av ∧ d.In := by
  obtain ⟨m, parts, rfl, rfl, hp⟩ := argOk_struct Tryd.underlying48 h
  obtain ⟨p0, r0, rfl, h0, p1, r1, rfl, h1, p2, r2, rfl, h2, p3, r3, rfl, h3, p4, r4, rfl, h4, p5, r5, rfl, h5, p6, r6, rfl, h6, p7, r7, rfl, h7, p8, r8, rfl, h8, rfl⟩ := hp
  obtain ⟨hs, rfl, l0⟩ := argOk_arr Tryd.underlying43 Tryd.underlying5 h0
  obtain ⟨p, rfl⟩ := argOk_bool Tryd.underlying4 h1
  obtain ⟨v, rfl⟩ := argOk_bool Tryd.underlying4 h2
  obtain ⟨hh, rfl⟩ := argOk_bool Tryd.underlying4 h3
  obtain ⟨cnt, rfl⟩ := argOk_u32 Tryd.underlying44 h4
  obtain ⟨ms, rfl, l5⟩ := argOk_arr Tryd.underlying46 Tryd.underlying5 h5
  obtain ⟨nb, b, rfl, hb, hbl⟩ := argOk_bytes Tryd.underlying22 Tryd.underlying5 (by kernel_rfl) h6
  obtain ⟨k, rfl, _⟩ := raw_arg h7
  obtain ⟨x, rfl, _⟩ := raw_arg h8
  refine ⟨⟨hs, p, v, hh, cnt.toNat, ms, nb, b, k, x⟩, ?_, ⟨l0, l5, cnt.toNat_lt, fun hn => hb hn, hbl⟩⟩
  obtain ⟨kk, kn, kbn, kb', kkn, kks⟩ := k
  obtain ⟨xk, xn, xbn, xb, xkn, xks⟩ := x
  simp only [List.flatMap_cons, List.flatMap_nil, AV.cells, AD.av, AD.cells, CI.av, avs_map, cs_mk, List.append_nil, List.cons_append, List.nil_append, List.append_assoc]
end Go.Proofs.YtijcpdgfbboamaaDoor
