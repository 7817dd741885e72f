/- Part of a framework that states what Go functions answer on values as data; it holds for every program of the model. -/
import Derived.Test.YtedjcbdhafmjiaaVsEval2
import Derived.IntWalk
namespace Go.VS
set_option linter.unusedVariables false
set_option linter.unusedSimpArgs false
set_option linter.unusedSectionVars false
open Go
variable {P : Program}

theorem vops_nil (n : Nat) (ops : Array Oper) (st : St) (K : St → Prop) : vops P n ops [] st K = K st := rfl
theorem vops_mk (n : Nat) (ops : Array Oper) (o : Oper) (os : List Oper) (s : Nat → AV) (b : Nat → Option (List AV)) (c f : Stamp → Bool) (m : Nat → Bool) (r : Nat → Option Stamp) (K : St → Prop) :
    vops P n ops (o :: os) (St.mk s b c f m r) K = vguard n ops (St.mk s b c f m r) o (vop P n (St.mk s b c f m r) o) fun st' => vops P n ops os st' K := rfl
theorem guardP_tt (n : Nat) (st : St) (d : Option Nat) (R : (St → Prop) → Prop) (K : St → Prop) : guardP n st d (.bool true) true R K = R K := by simp [guardP]
theorem guardP_ff (n : Nat) (st : St) (d : Option Nat) (R : (St → Prop) → Prop) (K : St → Prop) : guardP n st d (.bool false) false R K = R K := by simp [guardP]
theorem guardP_tf (n : Nat) (st : St) (d : Option Nat) (R : (St → Prop) → Prop) (K : St → Prop) : guardP n st d (.bool true) false R K = (St.fits n d = true ∧ K (st.putO d (.tup []))) := by simp [guardP]
theorem guardP_ft (n : Nat) (st : St) (d : Option Nat) (R : (St → Prop) → Prop) (K : St → Prop) : guardP n st d (.bool false) true R K = (St.fits n d = true ∧ K (st.putO d (.tup []))) := by simp [guardP]
theorem guardP_skip (n : Nat) (st : St) (d : Option Nat) (want : Bool) (R : (St → Prop) → Prop) (K : St → Prop) : guardP n st d (.tup []) want R K = (St.fits n d = true ∧ K (st.putO d (.tup []))) := rfl
theorem int_beq (x y : Int) : (x == y) = decide (x = y) := by
  by_cases h : x = y <;> simp [h]
theorem int_bne (x y : Int) : (x != y) = !decide (x = y) := by
  by_cases h : x = y <;> simp [h]
theorem condP_true (x y : Prop) : condP (.bool true) x y = x := by simp [condP]
theorem condP_false (x y : Prop) : condP (.bool false) x y = y := by simp [condP]

theorem AWP.seqR {X : Ent} (ks : List Nat) {id : Nat} {ops : Array Oper} {y : Code} {Q : Exit → St → Prop} {st : St}
    (h : ∀ K : St → Prop, (∀ s, AWP P X y Q s → K s) → vops P X.n ops ops.toList st fun s => K (norm ks s)) : AWP P X (.seq (.region id ops false) y) Q st :=
  AWP.seq (AWP.region (h _ fun _ hs => hs))

theorem AWP.seqD {X : Ent} (ks A is : List Nat) {id : Nat} {ops : Array Oper} {y : Code} {Q : Exit → St → Prop} {st : St} (hm : P.follows .mixedOrders = true) (ho : orderOk P ops A is = true) (hb : inB ops is = true)
    (h : ∀ K : St → Prop, (∀ s, AWP P X y Q s → K s) → vops P X.n ops (pickO ops is) st fun s => K (norm ks s)) : AWP P X (.seq (.region id ops true) y) Q st :=
  AWP.seq (AWP.regionPick ks A is hm ho hb (h _ fun _ hs => hs))

theorem AWP.lastR {X : Ent} (ks : List Nat) {id : Nat} {ops : Array Oper} {Q : Exit → St → Prop} {st : St}
    (h : ∀ K : St → Prop, (∀ s, Q .normal s → K s) → vops P X.n ops ops.toList st fun s => K (norm ks s)) : AWP P X (.region id ops false) Q st :=
  AWP.region (h _ fun _ hs => hs)

theorem AWP.lastD {X : Ent} (ks A is : List Nat) {id : Nat} {ops : Array Oper} {Q : Exit → St → Prop} {st : St} (hm : P.follows .mixedOrders = true) (ho : orderOk P ops A is = true) (hb : inB ops is = true)
    (h : ∀ K : St → Prop, (∀ s, Q .normal s → K s) → vops P X.n ops (pickO ops is) st fun s => K (norm ks s)) : AWP P X (.region id ops true) Q st :=
  AWP.regionPick ks A is hm ho hb (h _ fun _ hs => hs)

theorem AWP.condK {X : Ent} {c : Operand} {x y : Code} {Q : Exit → St → Prop} {st : St} (h : ∀ Kt Kf : Prop, (AWP P X x Q st → Kt) → (AWP P X y Q st → Kf) → VS.condP (st.ev P 0 c) Kt Kf) :
    AWP P X (.cond c x y) Q st := AWP.condP (h _ _ id id)

theorem AWP.seqC {X : Ent} {c : Operand} {x y z : Code} {Q : Exit → St → Prop} {st : St}
    (h : ∀ Kt Kf : Prop, (AWP P X x (thenS (AWP P X z Q) Q) st → Kt) → (AWP P X y (thenS (AWP P X z Q) Q) st → Kf) → VS.condP (st.ev P 0 c) Kt Kf) : AWP P X (.seq (.cond c x y) z) Q st :=
  AWP.seq (AWP.condK h)
theorem AWP.skipN {X : Ent} {z : Code} {Q : Exit → St → Prop} {st : St} (h : AWP P X z Q st) : AWP P X .skip (thenS (AWP P X z Q) Q) st := AWP.skip h
theorem AWP.seqB {X : Ent} {id : Nat} {x z : Code} {Q : Exit → St → Prop} {st : St} (h : AWP P X x (blockS id (thenS (AWP P X z Q) Q)) st) : AWP P X (.seq (.block id x) z) Q st :=
  AWP.seq (AWP.block h)
theorem AWP.seqA {X : Ent} {x y z : Code} {Q : Exit → St → Prop} {st : St} (h : AWP P X (.seq x y) (thenS (AWP P X z Q) Q) st) : AWP P X (.seq (.seq x y) z) Q st := AWP.seq h
theorem guardP_split {n : Nat} {st : St} {d : Option Nat} {b want : Bool} {R : (St → Prop) → Prop} {K : St → Prop} (ht : b = true → guardP n st d (.bool true) want R K)
    (hf : b = false → guardP n st d (.bool false) want R K) : guardP n st d (.bool b) want R K := by
  cases b
  · exact hf rfl
  · exact ht rfl
theorem condP_split {b : Bool} {x y : Prop} (ht : b = true → x) (hf : b = false → y) : VS.condP (.bool b) x y := ⟨ht, hf⟩
theorem callP_intro {st : St} {d : Option Nat} {f : FuncId} {as bs : List AV} {r : AV} {K : St → Prop} (h : CallsP P f bs r) (hb : as.map froz = bs) (hk : optP (callSt st d as r) K) : callP P st d f as K :=
  ⟨r, by rw [hb]; exact h, hk⟩
theorem thenS_n {n : St → Prop} {Q : Exit → St → Prop} {s : St} (h : n s) : thenS n Q .normal s := h
theorem thenS_x {n : St → Prop} {Q : Exit → St → Prop} {s : St} {id : Nat} (h : Q (.exit id) s) : thenS n Q (.exit id) s := h
theorem thenS_r {n : St → Prop} {Q : Exit → St → Prop} {s : St} (h : Q .ret s) : thenS n Q .ret s := h
theorem blockS_n {id : Nat} {Q : Exit → St → Prop} {s : St} (h : Q .normal s) : blockS id Q .normal s := h
theorem blockS_r {id : Nat} {Q : Exit → St → Prop} {s : St} (h : Q .ret s) : blockS id Q .ret s := h
theorem blockS_x {id : Nat} {Q : Exit → St → Prop} {s : St} (h : Q .normal s) : blockS id Q (.exit id) s := by
  simp only [blockS, if_true]; exact h
theorem blockS_y {id id' : Nat} {Q : Exit → St → Prop} {s : St} (hne : id' ≠ id) (h : Q (.exit id') s) : blockS id Q (.exit id') s := by
  simp only [blockS, if_neg hne]; exact h
theorem need_true {α : Type} (x : Option α) : need True x = x := rfl
theorem minb8 : min 8 IntKind.i64.bits = 8 := rfl
theorem fdiv256 (x : Int) : x.fdiv 256 = x / 256 := Int.fdiv_eq_ediv_of_nonneg x (by decide)
theorem cells_u8 (c : UInt8) : AV.cells (u8 c) = [u8 c] := rfl
end Go.VS
