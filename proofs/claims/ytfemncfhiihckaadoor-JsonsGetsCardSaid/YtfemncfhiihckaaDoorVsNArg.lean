/- Nodes as arguments. -/
import Derived.Test.YtfemncfhiihckaaDoorVsNMem
import Derived.Test.YtfemncfhiihckaaDoorVsLift
open Go Go.VS
namespace Go.Proofs.YtfemncfhiihckaaDoor
set_option linter.unusedVariables false
set_option linter.unusedSimpArgs false
set_option maxRecDepth 20000
set_option maxHeartbeats 4000000
theorem list_gen {α : Type} (g : α → AV) {Q : α → Prop} : ∀ l : List AV, (∀ x ∈ l, ∃ a, x = g a ∧ Q a) → ∃ xs : List α, l = xs.map g ∧ ∀ a ∈ xs, Q a
  | [], _ => ⟨[], rfl, fun a h => by cases h⟩
  | x :: l, h => by
    obtain ⟨a, rfl, ha⟩ := h x (by simp)
    obtain ⟨xs, rfl, hq⟩ := list_gen g l fun y hy => h y (by simp [hy])
    refine ⟨a :: xs, rfl, fun b hb => ?_⟩
    rcases List.mem_cons.1 hb with rfl | hb
    · exact ha
    · exact hq b hb
theorem node_arg {f : Nat} {a : AV} (h : argOk Tryd.prog f 42 a) : ∃ g : GN, a = g.av ∧ g.ns.length ≤ 9223372036854775807 ∧ g.ks.length ≤ 9223372036854775807 := by
  obtain ⟨m, parts, rfl, rfl, hp⟩ := argOk_struct Tryd.underlying42 h
  obtain ⟨p0, r0, rfl, h0, p1, r1, rfl, h1, p2, r2, rfl, h2, p3, r3, rfl, h3, rfl⟩ := hp
  obtain ⟨k, rfl⟩ := argOk_u8 Tryd.underlying40 h0
  obtain ⟨t, rfl, _⟩ := argOk_str Tryd.underlying9 h1
  obtain ⟨m2, n1, l2, _, rfl, _, hl2, hx2⟩ := argOk_slice Tryd.underlying29 h2
  obtain ⟨m3, n2, l3, _, rfl, _, hl3, hx3⟩ := argOk_slice Tryd.underlying25 h3
  obtain ⟨ns, rfl, _⟩ := list_gen (Q := fun _ => True) AV.str l2 fun x hx => (argOk_str Tryd.underlying9 (hx2 x hx)).imp fun l hl => ⟨hl.1, trivial⟩
  obtain ⟨ks, rfl, _⟩ := list_gen (Q := fun _ => True) (AV.int .i64) l3 fun x hx => (argOk_int Tryd.underlying3 (hx3 x hx)).imp fun z hz => ⟨hz.1, trivial⟩
  have hc3 : Tryd.prog.cellsOf 3 = 1 := by kernel_rfl
  have hc9 : Tryd.prog.cellsOf 9 = 1 := by kernel_rfl
  rw [List.length_map] at hl2 hl3
  refine ⟨⟨k, t, n1, ns, n2, ks⟩, ?_, hl2, hl3⟩
  rw [hc3, hc9]
  rfl
theorem nodes_arg {f : Nat} {a : AV} (h : argOk Tryd.prog f 33 a) : ∃ (nb : Bool) (gs : List GN), a = .sl none nb 4 (gs.map GN.av) ∧ gs.length ≤ 9223372036854775807 ∧ ∀ g ∈ gs, g.ns.length ≤ 9223372036854775807 ∧ g.ks.length ≤ 9223372036854775807 := by
  obtain ⟨m, nb, l, _, rfl, _, hl, hx⟩ := argOk_slice Tryd.underlying33 h
  obtain ⟨gs, rfl, hq⟩ := list_gen (Q := fun g : GN => g.ns.length ≤ 9223372036854775807 ∧ g.ks.length ≤ 9223372036854775807) GN.av l fun x hx' => node_arg (hx x hx')
  have hc : Tryd.prog.cellsOf 42 = 4 := by kernel_rfl
  rw [List.length_map] at hl
  exact ⟨nb, gs, by rw [hc], hl, hq⟩
end Go.Proofs.YtfemncfhiihckaaDoor
