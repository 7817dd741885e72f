/- A value's nodes further on; two values within brackets. -/
import Derived.Test.YtfemncfhiihckaaDoorVsPParse
open Go Go.VS
namespace Go.Proofs.YtfemncfhiihckaaDoor
set_option linter.unusedVariables false
set_option linter.unusedSimpArgs false
set_option maxRecDepth 20000
set_option maxHeartbeats 4000000
def shiftJ (k : Nat) (n : JN) : JN := ⟨n.k, n.t, n.ns, n.ks.map (· + k)⟩
def Moves (N : Nat → List JN) : Prop := ∀ b k, N (b + k) = (N b).map (shiftJ k)
theorem nodesI_shift : ∀ (its : List It), (∀ x ∈ its, Moves x.2) → ∀ (b k : Nat), nodesI (b + k) its = ((nodesI b its).1.map (shiftJ k), (nodesI b its).2.map (· + k))
  | [], _, b, k => rfl
  | it :: its, h, b, k => by
    have h1 := h it (by simp) b k
    have h2 := nodesI_shift its (fun x hx => h x (by simp [hx])) (b + (it.2 b).length) k
    simp only [nodesI]
    rw [h1, List.length_map, show b + k + (it.2 b).length = b + (it.2 b).length + k by omega, h2]
    simp
theorem group_moves (obj : Bool) (its : List It) (h : ∀ x ∈ its, Moves x.2) : Moves (groupN obj its) := by
  intro b k
  unfold groupN
  rw [show b + k + 1 = b + 1 + k by omega, nodesI_shift its h (b + 1) k]
  cases obj <;> rfl
theorem leaf_moves (m : Nat) (t : List UInt8) : Moves (fun _ => [leafN m t]) := by
  intro b k
  unfold leafN
  split <;> rfl
theorem nodes_moves : ∀ (d : Nat) (v : GV), Moves (nodesV d v)
  | 0, v => by
    intro b k
    unfold nodesV
    split
    · rfl
    · exact leaf_moves _ _ b k
  | d + 1, v => by
    intro b k
    unfold nodesV
    split
    · refine group_moves _ _ (fun x hx => ?_) b k
      obtain ⟨y, _, rfl⟩ := List.mem_map.1 hx
      exact nodes_moves d y
    · exact leaf_moves _ _ b k
theorem nodes_len (d : Nat) (v : GV) (b : Nat) : (nodesV d v b).length = (nodesV d v 0).length := by
  have := nodes_moves d v 0 b
  rw [Nat.zero_add] at this
  rw [this, List.length_map]
theorem nodes_ne : ∀ (d : Nat) (v : GV) (b : Nat), 1 ≤ (nodesV d v b).length
  | 0, v, b => by unfold nodesV; split <;> simp
  | d + 1, v, b => by unfold nodesV; split <;> simp [groupN]
def Within (N : Nat → List JN) : Prop := ∀ b, 1 ≤ (N b).length ∧ ∀ x ∈ N b, ∀ k ∈ x.ks, k < b + (N b).length
theorem nodesI_within : ∀ (its : List It), (∀ x ∈ its, Within x.2) → ∀ b, (∀ x ∈ (nodesI b its).1, ∀ k ∈ x.ks, k < b + (nodesI b its).1.length) ∧ ∀ k ∈ (nodesI b its).2, k < b + (nodesI b its).1.length
  | [], _, b => ⟨(fun _ h => by cases h), (fun _ h => by cases h)⟩
  | it :: its, h, b => by
    obtain ⟨h1, h2⟩ := h it (by simp) b
    obtain ⟨h3, h4⟩ := nodesI_within its (fun x hx => h x (by simp [hx])) (b + (it.2 b).length)
    simp only [nodesI, List.length_append]
    refine ⟨fun x hx k hk => ?_, fun k hk => ?_⟩
    · rcases List.mem_append.1 hx with hx | hx
      · have := h2 x hx k hk; omega
      · have := h3 x hx k hk; omega
    · rcases List.mem_cons.1 hk with rfl | hk
      · omega
      · have := h4 k hk; omega
theorem group_within (obj : Bool) (its : List It) (h : ∀ x ∈ its, Within x.2) : Within (groupN obj its) := by
  intro b
  obtain ⟨h1, h2⟩ := nodesI_within its h (b + 1)
  unfold groupN
  simp only [List.length_cons]
  refine ⟨by omega, fun x hx k hk => ?_⟩
  rcases List.mem_cons.1 hx with rfl | hx
  · have : k ∈ (nodesI (b + 1) its).2 := by cases obj <;> exact hk
    have := h2 k this; omega
  · have := h1 x hx k hk; omega
theorem leaf_within (m : Nat) (t : List UInt8) : Within (fun _ => [leafN m t]) := by
  intro b
  refine ⟨by simp, fun x hx k hk => ?_⟩
  simp only [List.mem_singleton] at hx
  subst hx
  exfalso
  revert hk
  unfold leafN
  split <;> simp
theorem nodes_within : ∀ (d : Nat) (v : GV), Within (nodesV d v)
  | 0, v => by
    intro b
    unfold nodesV
    split
    · exact ⟨by simp, fun x hx k hk => by simp only [List.mem_singleton] at hx; subst hx; cases hk⟩
    · exact leaf_within _ _ b
  | d + 1, v => by
    intro b
    unfold nodesV
    split
    · refine group_within _ _ (fun x hx => ?_) b
      obtain ⟨y, _, rfl⟩ := List.mem_map.1 hx
      exact nodes_within d y
    · exact leaf_within _ _ b
/-- Two values within brackets. -/
theorem pair_parse {g1 g2 : List UInt8} (h1 : AllB g1) (h2 : AllB g2) (d : Nat) (hd : d ≤ 5) (v w : GV) (hl : (txtS g1 d v).length + (txtS g2 d w).length + 3 ≤ 4096) (hn : 1 + (nodesV d v 0).length + (nodesV d w 0).length ≤ 256) :
    parseS (91 :: (txtS g1 d v ++ 44 :: (txtS g2 d w ++ [93]))) = (⟨2, [], [], [1, 1 + (nodesV d v 0).length]⟩ :: ((nodesV d v 0).map (shiftJ 1) ++ (nodesV d w 0).map (shiftJ (1 + (nodesV d v 0).length))), 0) := by
  have hR : Reads (valS 9) 0 (opT false :: bodyI false [] [(txtS g1 d v, nodesV d v), (txtS g2 d w, nodesV d w)]) (groupN false [(txtS g1 d v, nodesV d v), (txtS g2 d w, nodesV d w)]) := by
    refine group_reads (val := valS 8) (fun _ h => by cases h) (by omega) false _ (by simp) (fun x hx => ?_) (fun x hx => ?_)
    · simp only [List.mem_cons, List.not_mem_nil, or_false] at hx
      rcases hx with rfl | rfl
      · exact txt_head g1 d v
      · exact txt_head g2 d w
    · simp only [List.mem_cons, List.not_mem_nil, or_false] at hx
      rcases hx with rfl | rfl
      · exact txt_reads h1 d v 8 1 (by omega) (by omega)
      · exact txt_reads h2 d w 8 1 (by omega) (by omega)
  have e : (opT false :: bodyI false [] [(txtS g1 d v, nodesV d v), (txtS g2 d w, nodesV d w)] : List UInt8) = 91 :: (txtS g1 d v ++ 44 :: (txtS g2 d w ++ [93])) := rfl
  rw [e] at hR
  have m1 := nodes_moves d v 0 1
  have m2 := nodes_moves d w 0 (1 + (nodesV d v 0).length)
  rw [Nat.zero_add] at m1 m2
  have hN : groupN false [(txtS g1 d v, nodesV d v), (txtS g2 d w, nodesV d w)] 0 = ⟨2, [], [], [1, 1 + (nodesV d v 0).length]⟩ :: ((nodesV d v 0).map (shiftJ 1) ++ (nodesV d w 0).map (shiftJ (1 + (nodesV d v 0).length))) := by
    unfold groupN
    simp only [nodesI, Nat.zero_add, cond_false, m1, List.length_map, m2, List.append_nil]
  have hp := parse_reads hR (by simp only [List.length_cons, List.length_append, List.length_nil]; omega)
  rw [hN] at hp
  rw [hp, if_pos (by simp only [List.length_cons, List.length_append, List.length_map]; omega)]
end Go.Proofs.YtfemncfhiihckaaDoor
