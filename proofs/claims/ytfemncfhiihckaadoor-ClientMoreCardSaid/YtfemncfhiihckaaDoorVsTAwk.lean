/- Awake of layer 16; two equal clients are the same. -/
import Derived.Test.YtfemncfhiihckaaDoorVsSMore2
import Derived.Test.YtfemncfhiihckaaDoorVsRCli2
open Go Go.VS
namespace Go.Proofs.YtfemncfhiihckaaDoor
set_option linter.unusedVariables false
set_option linter.unusedSimpArgs false
set_option maxRecDepth 20000
set_option maxHeartbeats 4000000
abbrev exB : List UInt8 := [123, 34, 116, 121, 112, 101, 34, 58, 34, 119, 101, 98, 97, 117, 116, 104, 110, 46, 103, 101, 116, 34, 44, 34, 99, 104, 97, 108, 108, 101, 110, 103, 101, 34, 58, 34, 65, 65, 34, 44, 34, 111, 114, 105, 103, 105, 110, 34, 58, 34, 104, 116, 116, 112, 115, 58, 47, 47, 97, 34, 125]
theorem ex_parse : parseS exB = ([⟨1, [], [tyB, chB, ogB], [1, 2, 3]⟩, ⟨3, [119, 101, 98, 97, 117, 116, 104, 110, 46, 103, 101, 116], [], []⟩, ⟨3, [65, 65], [], []⟩, ⟨3, [104, 116, 116, 112, 115, 58, 47, 47, 97], [], []⟩], 0) := by kernel_rfl
theorem ex_cli : cliS (parseS exB).1 (parseS exB).2 = (⟨[119, 101, 98, 97, 117, 116, 104, 110, 46, 103, 101, 116], [104, 116, 116, 112, 115, 58, 47, 47, 97], [0], false, false, []⟩, 0) := by
  rw [ex_parse]
  rw [cli_of rfl rfl rfl dec_AA, cross_none rfl, tok_none rfl]
  rfl
def k24_VsTAwk : List Nat := [0,1,2]
attribute [go_sem] k24_VsTAwk
theorem f24_ok : CallsP Tryd.prog 24 [] (.bool true) := by
  have c27 : CallsP Tryd.prog 27 [.sl none false 1 [.int .u8 123, .int .u8 34, .int .u8 116, .int .u8 121, .int .u8 112, .int .u8 101, .int .u8 34, .int .u8 58, .int .u8 34, .int .u8 119, .int .u8 101, .int .u8 98, .int .u8 97, .int .u8 117, .int .u8 116, .int .u8 104, .int .u8 110, .int .u8 46, .int .u8 103, .int .u8 101, .int .u8 116, .int .u8 34, .int .u8 44, .int .u8 34, .int .u8 99, .int .u8 104, .int .u8 97, .int .u8 108, .int .u8 108, .int .u8 101, .int .u8 110, .int .u8 103, .int .u8 101, .int .u8 34, .int .u8 58, .int .u8 34, .int .u8 65, .int .u8 65, .int .u8 34, .int .u8 44, .int .u8 34, .int .u8 111, .int .u8 114, .int .u8 105, .int .u8 103, .int .u8 105, .int .u8 110, .int .u8 34, .int .u8 58, .int .u8 34, .int .u8 104, .int .u8 116, .int .u8 116, .int .u8 112, .int .u8 115, .int .u8 58, .int .u8 47, .int .u8 47, .int .u8 97, .int .u8 34, .int .u8 125]] _ := f27_ok exB false
  rw [ex_cli] at c27
  have hb0 : bytesOf [AV.int .u8 0] = some [0] := bytesOf_u8 [0]
  refine CallsP.intro Tryd.func24 rfl (by show 0 ≤ 32; decide) ?_
  rintro X hX
  have hn : X.n = 32 := hX
  unfold Tryd.f24
  dsimp only
  rw [entry0]
  repeat' first
   | with_reducible refine Rl.go (by constructor <;> decide) ?_
   | ((with_reducible first | refine hK _ ?_ | refine hK.1 ?_ | refine hK.2 ?_); clear hK K)
   | ((with_reducible refine condS hK (fun hg => ?_) fun hg => ?_) <;> clear hK K <;> (try simp only [hgW] at hg) <;> try (exfalso; omega))
   | ((first | ((with_reducible first | refine Rk.go k24_VsTAwk (by constructor) ?_); intro K hK) | with_reducible refine Rr.go [] (by constructor) ?_ | (with_reducible refine guardP_split (fun hg => ?_) fun hg => ?_) <;> (try simp only [hg]) <;> (try simp only [hgW] at hg) | refine Rc.go c27 (by constructor) ?_) <;> simp -implicitDefEqProofs only [CL.cells, u8, hb0, hn, go_sem, simprocAttr] <;> try (simp (disch := omega) only [wrW]; try simp -implicitDefEqProofs only [CL.cells, u8, hb0, hn, go_sem, simprocAttr]))
   | with_reducible refine And.intro (by first | omega | (simp only [hgW]; omega)) ?_
   | (exfalso; omega)
def k28_VsTAwk : List Nat := [0,1,2,3,4]
attribute [go_sem] k28_VsTAwk
theorem f28_same (c : CL) (n1 n2 : Bool) : CallsP Tryd.prog 28 [.agg [.str c.ty, .str c.og, .sl none n1 1 (c.ch.map u8), .bool c.cross, .bool c.bound, .str c.tok], .agg [.str c.ty, .str c.og, .sl none n2 1 (c.ch.map u8), .bool c.cross, .bool c.bound, .str c.tok]] (.bool true) := by
  obtain ⟨c1, c2, c3, c4, c5, c6⟩ := c
  refine CallsP.intro Tryd.func28 rfl (by show 2 ≤ 47; decide) ?_
  rintro X hX
  have hn : X.n = 47 := hX
  unfold Tryd.f28
  dsimp only
  rw [entry2]
  repeat' first
   | with_reducible refine Rl.go (by constructor <;> decide) ?_
   | ((with_reducible first | refine hK _ ?_ | refine hK.1 ?_ | refine hK.2 ?_); clear hK K)
   | ((with_reducible refine condS hK (fun hg => ?_) fun hg => ?_) <;> clear hK K <;> (try simp only [hgW] at hg) <;> try (exfalso; omega))
   | ((first | ((with_reducible first | refine Rk.go k28_VsTAwk (by constructor) ?_); intro K hK) | with_reducible refine Rr.go [] (by constructor) ?_ | (with_reducible refine guardP_split (fun hg => ?_) fun hg => ?_) <;> (try simp only [hg]) <;> (try simp only [hgW] at hg)) <;> simp -implicitDefEqProofs only [beq_self_eq_true, hn, go_sem, simprocAttr] <;> try (simp (disch := omega) only [wrW]; try simp -implicitDefEqProofs only [beq_self_eq_true, hn, go_sem, simprocAttr]))
   | with_reducible refine And.intro (by first | omega | (simp only [hgW]; omega)) ?_
   | (exfalso; omega)
end Go.Proofs.YtfemncfhiihckaaDoor
