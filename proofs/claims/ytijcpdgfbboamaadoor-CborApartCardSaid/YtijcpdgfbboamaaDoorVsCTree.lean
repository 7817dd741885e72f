/- A region that draws its order, every order gone through: a call's answer is chosen where it is met. -/
import Derived.Test.YtijcpdgfbboamaaDoorVsSimp
open Go Go.VS
namespace Go.Proofs.YtijcpdgfbboamaaDoor
set_option linter.unusedVariables false
/-- The orders, as a tree: what may come next, and what then. -/
inductive OTree where
  | leaf
  | stop
  | br (i : Nat) (t rest : OTree)
def conjT (a b : Prop) : Prop := a ∧ b
theorem conjT_mk {a b : Prop} (h : a) (h' : b) : conjT a b := ⟨h, h'⟩
def VT (P : Program) (n : Nat) (ops : Array Oper) (K : St → Prop) : OTree → St → Prop
  | .leaf, st => K st
  | .stop, _ => True
  | .br i t rest, st => conjT (optP ops[i]? fun o => vguard n ops st o (vop P n st o) (VT P n ops K t)) (VT P n ops K rest st)
def treeOk (ops : Array Oper) : OTree → Nat → Array Bool → List Nat → Bool
  | .leaf, _, listed, _ => (Region.ready .any ops listed).isEmpty
  | .stop, f, listed, seen =>
    match f with
    | 0 => false
    | _ + 1 => !(Region.ready .any ops listed).isEmpty && (Region.ready .any ops listed).all fun i => seen.contains i
  | .br i t rest, f, listed, seen =>
    match f with
    | 0 => false
    | f + 1 => treeOk ops t f (listed.setIfInBounds i true) [] && treeOk ops rest (f + 1) listed (i :: seen)
theorem VT_sound {P : Program} {n : Nat} {ops : Array Oper} {K : St → Prop} : ∀ (t : OTree) (f : Nat) (listed : Array Bool) (seen : List Nat) (st : St), treeOk ops t f listed seen = true → VT P n ops K t st →
    (∀ i ∈ seen, ∃ o, ops[i]? = some o ∧ vguard n ops st o (vop P n st o) (VAny P n ops K (f - 1) (listed.setIfInBounds i true))) → VAny P n ops K f listed st
  | .leaf, f, listed, seen, st, h, hv, hs => by
    have h0 : Region.ready .any ops listed = [] := by simpa [treeOk] using h
    cases f with
    | zero => exact ⟨h0, hv⟩
    | succ f => exact ⟨fun _ => hv, fun i hi => by rw [h0] at hi; cases hi⟩
  | .stop, f, listed, seen, st, h, hv, hs => by
    cases f with
    | zero => cases h
    | succ f =>
      simp only [treeOk, Bool.and_eq_true, Bool.not_eq_true', List.all_eq_true] at h
      refine ⟨fun h0 => ?_, fun i hi => hs i (by simpa using h.2 i hi)⟩
      rw [h0] at h; cases h.1
  | .br i t rest, f, listed, seen, st, h, hv, hs => by
    cases f with
    | zero => cases h
    | succ f =>
      simp only [treeOk, Bool.and_eq_true] at h
      obtain ⟨h1, h2⟩ := hv
      refine VT_sound rest (f + 1) listed (i :: seen) st h.2 h2 fun j hj => ?_
      rcases List.mem_cons.1 hj with rfl | hj
      · cases e : ops[j]? with
        | none => rw [e] at h1; exact h1.elim
        | some o =>
          rw [e] at h1
          exact ⟨o, rfl, vguard_mono (fun s hk => VT_sound t f _ [] s h.1 hk (fun k hk => by cases hk)) h1⟩
      · exact hs j hj
theorem AWP.seqT {P : Program} {X : Ent} (ks : List Nat) (tr : OTree) {id : Nat} {ops : Array Oper} {y : Code} {Q : Exit → St → Prop} {st S : St} (hm : P.follows .mixedOrders = true) (ho : treeOk ops tr ops.size (Array.replicate ops.size false) [] = true)
    (h : VT P X.n ops (fun s => norm ks s = S) tr st) (hS : AWP P X y Q S) : AWP P X (.seq (.region id ops true) y) Q st := by
  refine AWP.seq ?_
  intro C a w hc
  refine wp_region_any hm ?_
  have hc' : Conc X st C a { w with drawn := w.drawn + 1 } := hc.same rfl rfl rfl rfl
  refine VAny_sound (K := fun s => norm ks s = S) (fun st' C' a' w' hq hc'' => ?_) _ _ st ?_ C a _ hc'
  · obtain ⟨C2, h2⟩ := hc''.norm ks
    rw [hq] at h2
    exact ⟨_, C2, hS, h2⟩
  · exact VT_sound tr _ _ [] st ho h (fun i hi => by cases hi)
theorem VT_leaf (P : Program) (n : Nat) (ops : Array Oper) (K : St → Prop) (s : Nat → AV) (b : Nat → Option (List AV)) (c f : Stamp → Bool) (m : Nat → Bool) (r : Nat → Option Stamp) : VT P n ops K .leaf (St.mk s b c f m r) = K (St.mk s b c f m r) := rfl
theorem VT_stop (P : Program) (n : Nat) (ops : Array Oper) (K : St → Prop) (s : Nat → AV) (b : Nat → Option (List AV)) (c f : Stamp → Bool) (m : Nat → Bool) (r : Nat → Option Stamp) : VT P n ops K .stop (St.mk s b c f m r) = True := rfl
theorem VT_br (P : Program) (n : Nat) (ops : Array Oper) (K : St → Prop) (i : Nat) (t rest : OTree) (s : Nat → AV) (b : Nat → Option (List AV)) (c f : Stamp → Bool) (m : Nat → Bool) (r : Nat → Option Stamp) :
    VT P n ops K (.br i t rest) (St.mk s b c f m r) = conjT (optP ops[i]? fun o => vguard n ops (St.mk s b c f m r) o (vop P n (St.mk s b c f m r) o) (VT P n ops K t)) (VT P n ops K rest (St.mk s b c f m r)) := rfl
end Go.Proofs.YtijcpdgfbboamaaDoor
