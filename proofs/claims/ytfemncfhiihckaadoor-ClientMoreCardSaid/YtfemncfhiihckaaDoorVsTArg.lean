/- What a browser says, as an argument. -/
import Derived.Test.YtfemncfhiihckaaDoorVsTy
import Derived.Test.YtfemncfhiihckaaDoorVsLift
open Go Go.VS
namespace Go.Proofs.YtfemncfhiihckaaDoor
set_option linter.unusedVariables false
theorem says_arg {f : Nat} {a : AV} (h : argOk Tryd.prog f 52 a) : ∃ k o c t d : UInt8, a = .agg [.int .u8 (k.toNat : Int), .int .u8 (o.toNat : Int), .int .u8 (c.toNat : Int), .int .u8 (t.toNat : Int), .int .u8 (d.toNat : Int)] := by
  obtain ⟨m, parts, rfl, rfl, hp⟩ := argOk_struct Tryd.underlying52 h
  obtain ⟨p0, r0, rfl, h0, p1, r1, rfl, h1, p2, r2, rfl, h2, p3, r3, rfl, h3, p4, r4, rfl, h4, rfl⟩ := hp
  obtain ⟨k, rfl⟩ := argOk_u8 Tryd.underlying5 h0
  obtain ⟨o, rfl⟩ := argOk_u8 Tryd.underlying5 h1
  obtain ⟨c, rfl⟩ := argOk_u8 Tryd.underlying5 h2
  obtain ⟨t, rfl⟩ := argOk_u8 Tryd.underlying5 h3
  obtain ⟨d, rfl⟩ := argOk_u8 Tryd.underlying5 h4
  exact ⟨k, o, c, t, d, rfl⟩
end Go.Proofs.YtfemncfhiihckaaDoor
