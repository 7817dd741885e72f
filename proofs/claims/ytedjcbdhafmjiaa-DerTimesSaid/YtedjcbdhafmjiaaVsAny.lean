/- Part of a framework that states what Go functions answer on values as data; it holds for every program of the model. -/
import Derived.Test.YtedjcbdhafmjiaaVsFn
import Derived.Orders
namespace Go.VS
set_option linter.unusedVariables false
set_option linter.unusedSimpArgs false
set_option linter.unusedSectionVars false
open Go
variable {P : Program}

/-! ### What an operation looks at -/

/-- Less is consumed. -/
def ConsLe (st st' : St) : Prop := ∀ g, st.cons g = true → st'.cons g = true

theorem alive_mono {st st' : St} (h : ConsLe st st') {o : Option (Stamp × Nat)} (ha : st'.alive o = true) : st.alive o = true := by
  cases o with
  | none => rfl
  | some p =>
    obtain ⟨g, e⟩ := p
    simp only [St.alive, Bool.not_eq_true'] at ha ⊢
    cases hc : st.cons g with
    | false => rfl
    | true => rw [h g hc] at ha; cases ha

theorem solid_mono {st st' : St} (h : ConsLe st st') {v : AV} (ha : st'.solid v = true) : st.solid v = true := by
  cases v <;> first | rfl | cases ha | exact alive_mono h ha

theorem one_mono {st st' : St} (h : ConsLe st st') {v : AV} (ha : st'.one v = true) : st.one v = true := by
  unfold St.one at ha ⊢
  split at ha
  · cases ha
  · exact solid_mono h ha

theorem need_mono {α : Type} {c c' : Prop} [Decidable c] [Decidable c'] {x : Option α} {v : α} (hc : c' → c) (h : need c' x = some v) : need c x = some v := by
  obtain ⟨h1, h2⟩ := need_some h
  unfold need
  rw [if_pos (hc h1)]; exact h2

theorem need_mono2 {α : Type} {c c' : Prop} [Decidable c] [Decidable c'] {x x' : Option α} {v : α} (hc : c' → c) (hx : x' = some v → x = some v) (h : need c' x' = some v) : need c x = some v := by
  obtain ⟨h1, h2⟩ := need_some h
  unfold need
  rw [if_pos (hc h1)]; exact hx h2

theorem pvBin_mono {st st' : St} (h : ConsLe st st') {op : BinOp} {T : TypeId} {x y v : AV} (hv : pvBin P st' op T x y = some v) : pvBin P st op T x y = some v := by
  unfold pvBin at hv ⊢
  split at hv <;> first | exact hv | exact need_mono (fun hc => ⟨alive_mono h hc.1, hc.2⟩) hv

theorem pvConv_mono {st st' : St} (h : ConsLe st st') {s d : TypeId} {x v : AV} (hv : pvConv P st' s d x = some v) : pvConv P st s d x = some v := by
  unfold pvConv at hv ⊢
  split at hv
  · exact hv
  · exact hv
  · split at hv
    · split at hv
      ·
        exact need_mono (fun hc => ⟨alive_mono h hc.1, hc.2⟩) hv
      · cases hv
    · cases hv
  · cases hv

theorem pvSlice_mono {st st' : St} (h : ConsLe st st') {T : TypeId} {x : AV} {lo hi mx : Option AV} {v : AV} (hv : pvSlice P st' T x lo hi mx = some v) : pvSlice P st T x lo hi mx = some v := by
  unfold pvSlice at hv ⊢
  split at hv
  · exact hv
  · split at hv
    · exact need_mono (fun hc => ⟨alive_mono h hc.1, hc.2⟩) hv
    · exact hv
    · cases hv
  · exact hv
  · cases hv

theorem pvFieldAddr_mono {st st' : St} (h : ConsLe st st') {S : TypeId} {x : AV} {f : Nat} {v : AV} (hv : pvFieldAddr P st' S x f = some v) : pvFieldAddr P st S x f = some v := by
  unfold pvFieldAddr at hv ⊢
  split at hv
  · split at hv
    · refine need_mono2 id (fun hx => ?_) hv
      split at hx
      · exact hx
      · exact need_mono (fun hc => ⟨alive_mono h hc.1, hc.2⟩) hx
      · cases hx
    · cases hv
  · cases hv

theorem pvIndexAddr_mono {st st' : St} (h : ConsLe st st') {T : TypeId} {x i : AV} {v : AV} (hv : pvIndexAddr P st' T x i = some v) : pvIndexAddr P st T x i = some v := by
  unfold pvIndexAddr at hv ⊢
  split at hv
  · split at hv
    · split at hv
      · exact need_mono (fun hc => ⟨alive_mono h hc.1, hc.2⟩) hv
      · exact hv
      · cases hv
    · split at hv
      · exact hv
      · exact need_mono (fun hc => ⟨alive_mono h hc.1, hc.2⟩) hv
      · cases hv
    · cases hv
  · cases hv

theorem pvLoad_mono {st st' : St} (h : ConsLe st st') (hb : st.bx = st'.bx) {T : TypeId} {x : AV} {v : AV} (hv : pvLoad P st' T x = some v) : pvLoad P st T x = some v := by
  unfold pvLoad at hv ⊢
  split at hv
  · rw [hb]; exact hv
  · exact need_mono (fun hc => ⟨hc.1, hc.2.1, alive_mono h hc.2.2⟩) hv
  · cases hv

theorem fillAV_mono {st st' : St} (h : ConsLe st st') {T : TypeId} : ∀ (parts : List (Nat × AV)) {cs l : List AV}, fillAV P st' T cs parts = some l → fillAV P st T cs parts = some l
  | [], _, _, hv => hv
  | (i, v) :: r, cs, l, hv => by
    simp only [fillAV] at hv ⊢
    obtain ⟨p, h1, h2⟩ := Option.bind_eq_some_iff.1 hv
    rw [h1, Option.bind_some]
    exact need_mono2 (fun hc => ⟨solid_mono h hc.1, hc.2⟩) (fillAV_mono h r) h2

theorem pvBuild_mono {st st' : St} (h : ConsLe st st') {T : TypeId} {parts : List (Nat × AV)} {v : AV} (hv : pvBuild P st' T parts = some v) : pvBuild P st T parts = some v := by
  unfold pvBuild at hv ⊢
  obtain ⟨p, h1, h2⟩ := Option.bind_eq_some_iff.1 hv
  rw [h1, Option.bind_some]
  refine need_mono2 id (fun hx => ?_) h2
  obtain ⟨l, h3, rfl⟩ := Option.map_eq_some_iff.1 hx
  rw [fillAV_mono h parts h3]; rfl

theorem pvBuiltin_mono {st st' : St} (h : ConsLe st st') {b : Builtin} {ts : List TypeId} {xs : List AV} {v : AV} (hv : pvBuiltin P st' b ts xs = some v) : pvBuiltin P st b ts xs = some v := by
  unfold pvBuiltin at hv ⊢
  split at hv
  · exact hv
  · split at hv
    · exact need_mono (fun hc => alive_mono h hc) hv
    · cases hv
  · exact hv
  · exact hv
  · exact hv
  · cases hv

/-- Is the operation one that loads? -/
def isLoad (o : Oper) : Bool :=
  match o.op with
  | .load _ _ => true
  | _ => false

theorem ev_agree {st st' : St} {T : TypeId} {x : Operand} (h : ∀ t, x = .tmp t → st.s t = st'.s t) : st.ev P T x = st'.ev P T x := by
  cases x with
  | tmp t => exact h t rfl
  | _ => rfl

theorem pv_mono {st st' : St} (h : ConsLe st st') {o : Oper} (ha : ∀ T, ∀ x ∈ o.op.operands.toList, st.ev P T x = st'.ev P T x) (hb : isLoad o = true → st.bx = st'.bx) {v : AV}
    (hv : pv P st' o = some v) : pv P st o = some v := by
  obtain ⟨dst, op, ty, pos, after, guard⟩ := o
  simp only at ha
  unfold pv at hv ⊢
  simp only at hv ⊢
  cases op
  case move x =>
    dsimp only at hv ⊢
    rw [ha _ x (by simp [Op.operands])]; exact hv
  case assign x =>
    dsimp only at hv ⊢
    rw [ha _ x (by simp [Op.operands])]; exact hv
  case pick c a b =>
    dsimp only at hv ⊢
    rw [ha _ c (by simp [Op.operands]), ha _ a (by simp [Op.operands]), ha _ b (by simp [Op.operands])]; exact hv
  case nilCheck x =>
    dsimp only at hv ⊢
    rw [ha _ x (by simp [Op.operands])]
    split at hv
    · exact hv
    · exact need_mono (fun hc => alive_mono h hc) hv
    · exact hv
    · cases hv
  case binOp op T x y U =>
    dsimp only at hv ⊢
    rw [ha _ x (by simp [Op.operands]), ha _ y (by simp [Op.operands])]; exact pvBin_mono h hv
  case unOp op T x =>
    dsimp only at hv ⊢
    rw [ha _ x (by simp [Op.operands])]; exact hv
  case convert s d x =>
    dsimp only at hv ⊢
    rw [ha _ x (by simp [Op.operands])]; exact pvConv_mono h hv
  case makeFunc f first cap =>
    cases f with
    | func g =>
      dsimp only at hv ⊢
      have e : cap.toList.map (st.ev P 0) = cap.toList.map (st'.ev P 0) := List.map_congr_left fun x hx => ha _ x (by simp [Op.operands]; exact .inr (by simpa using hx))
      refine need_mono2 (fun hc => ⟨hc.1, ?_⟩) (fun hx => ?_) hv
      · rw [e]
        exact List.all_eq_true.2 fun x hx => one_mono h (List.all_eq_true.1 hc.2 x hx)
      · rw [e]; exact hx
    | _ => cases hv
  case slice T x lo hi mx =>
    dsimp only at hv ⊢
    have e : ∀ (z : Option Operand), (∀ y ∈ z, y ∈ (Op.slice T x lo hi mx).operands.toList) → z.map (st.ev P 0) = z.map (st'.ev P 0) := by
      intro z hz
      cases z with
      | none => rfl
      | some y => simp only [Option.map_some]; rw [ha _ y (hz y rfl)]
    rw [ha _ x (by simp [Op.operands]), e lo (fun y hy => by simp at hy; simp [Op.operands, hy]), e hi (fun y hy => by simp at hy; simp [Op.operands, hy]), e mx (fun y hy => by simp at hy; simp [Op.operands, hy])]
    exact pvSlice_mono h hv
  case fieldAddr S x f =>
    dsimp only at hv ⊢
    rw [ha _ x (by simp [Op.operands])]; exact pvFieldAddr_mono h hv
  case field S x f =>
    dsimp only at hv ⊢
    rw [ha _ x (by simp [Op.operands])]; exact hv
  case indexAddr T x i =>
    dsimp only at hv ⊢
    rw [ha _ x (by simp [Op.operands]), ha _ i (by simp [Op.operands])]; exact pvIndexAddr_mono h hv
  case index T x i =>
    dsimp only at hv ⊢
    rw [ha _ x (by simp [Op.operands]), ha _ i (by simp [Op.operands])]; exact hv
  case load T x =>
    dsimp only at hv ⊢
    rw [ha _ x (by simp [Op.operands])]; exact pvLoad_mono h (hb rfl) hv
  case extract t i =>
    dsimp only at hv ⊢
    rw [ha _ t (by simp [Op.operands])]; exact hv
  case build T parts =>
    dsimp only at hv ⊢
    have e : (parts.toList.map fun p => (p.1, st.ev P (partTy P T p.1) p.2)) = parts.toList.map fun p => (p.1, st'.ev P (partTy P T p.1) p.2) :=
      List.map_congr_left fun p hp => by rw [ha _ p.2 (by simp [Op.operands]; exact ⟨p.1, by simpa using hp⟩)]
    rw [e]; exact pvBuild_mono h hv
  case call c =>
    dsimp only at hv ⊢
    split at hv
    · rename_i b hb
      have e : ∀ T, c.args.toList.map (st.ev P T) = c.args.toList.map (st'.ev P T) := fun T => List.map_congr_left fun x hx => ha _ x (by simp [Op.operands, Call.operands]; exact .inr (by simpa using hx))
      rw [e]; exact pvBuiltin_mono h hv
    · cases hv
  all_goals cases hv
end Go.VS
