/- Part of a framework that states what Go functions answer on values as data; it holds for every program of the model. -/
import Derived.Test.YtfemncfhiihckaaDoorVsFn
import Derived.Orders
import Derived.Still
namespace Go.VS
set_option linter.unusedVariables false
set_option linter.unusedSimpArgs false
set_option linter.unusedSectionVars false
open Go
variable {P : Program}
/-- Less is consumed. -/
def ConsLe (st st' : St) : Prop := ∀ g, st.cons g = true → st'.cons g = true
theorem alive_mono {st st' : St} (h : ConsLe st st') {o : Option (Stamp × Nat)} (ha : st'.alive o = true) : st.alive o = true := by
  cases o with
  | none => rfl
  | some p =>
    obtain ⟨g, e⟩ := p
    simp only [St.alive, Bool.not_eq_true'] at ha ⊢
    cases hc : st.cons g with
    | false => rfl
    | true => rw [h g hc] at ha; cases ha
theorem solid_mono {st st' : St} (h : ConsLe st st') {v : AV} (ha : st'.solid v = true) : st.solid v = true := by
  cases v <;> first | rfl | cases ha | exact alive_mono h ha
theorem one_mono {st st' : St} (h : ConsLe st st') {v : AV} (ha : st'.one v = true) : st.one v = true := by
  unfold St.one at ha ⊢
  split at ha
  · cases ha
  · exact solid_mono h ha
theorem need_mono {α : Type} {c c' : Prop} [Decidable c] [Decidable c'] {x : Option α} {v : α} (hc : c' → c) (h : need c' x = some v) : need c x = some v := by
  obtain ⟨h1, h2⟩ := need_some h
  unfold need
  rw [if_pos (hc h1)]; exact h2
theorem need_mono2 {α : Type} {c c' : Prop} [Decidable c] [Decidable c'] {x x' : Option α} {v : α} (hc : c' → c) (hx : x' = some v → x = some v) (h : need c' x' = some v) : need c x = some v := by
  obtain ⟨h1, h2⟩ := need_some h
  unfold need
  rw [if_pos (hc h1)]; exact hx h2
theorem pvBin_mono {st st' : St} (h : ConsLe st st') {op : BinOp} {T : TypeId} {x y v : AV} (hv : pvBin P st' op T x y = some v) : pvBin P st op T x y = some v := by
  unfold pvBin at hv ⊢
  split at hv <;> first | exact hv | exact need_mono (fun hc => ⟨alive_mono h hc.1, hc.2⟩) hv
theorem pvConv_mono {st st' : St} (h : ConsLe st st') {s d : TypeId} {x v : AV} (hv : pvConv P st' s d x = some v) : pvConv P st s d x = some v := by
  unfold pvConv at hv ⊢
  split at hv
  · exact hv
  · exact hv
  · split at hv
    · split at hv
      · exact need_mono (fun hc => ⟨alive_mono h hc.1, hc.2⟩) hv
      · exact need_mono (fun hc => ⟨alive_mono h hc.1, hc.2⟩) hv
      · cases hv
    · cases hv
  · cases hv
theorem pvSlice_mono {st st' : St} (h : ConsLe st st') {T : TypeId} {x : AV} {lo hi mx : Option AV} {v : AV} (hv : pvSlice P st' T x lo hi mx = some v) : pvSlice P st T x lo hi mx = some v := by
  unfold pvSlice at hv ⊢
  split at hv
  · exact hv
  · split at hv
    · exact need_mono (fun hc => ⟨alive_mono h hc.1, hc.2⟩) hv
    · exact hv
    · cases hv
  · exact hv
  · cases hv
theorem pvFieldAddr_mono {st st' : St} (h : ConsLe st st') {S : TypeId} {x : AV} {f : Nat} {v : AV} (hv : pvFieldAddr P st' S x f = some v) : pvFieldAddr P st S x f = some v := by
  unfold pvFieldAddr at hv ⊢
  split at hv
  · split at hv
    · refine need_mono2 id (fun hx => ?_) hv
      split at hx
      · exact hx
      · exact need_mono (fun hc => ⟨alive_mono h hc.1, hc.2⟩) hx
      · cases hx
    · cases hv
  · cases hv
theorem pvIndexAddr_mono {st st' : St} (h : ConsLe st st') {T : TypeId} {x i : AV} {v : AV} (hv : pvIndexAddr P st' T x i = some v) : pvIndexAddr P st T x i = some v := by
  unfold pvIndexAddr at hv ⊢
  split at hv
  · split at hv
    · split at hv
      · exact need_mono (fun hc => ⟨alive_mono h hc.1, hc.2⟩) hv
      · exact hv
      · cases hv
    · split at hv
      · exact hv
      · exact need_mono (fun hc => ⟨alive_mono h hc.1, hc.2⟩) hv
      · cases hv
    · cases hv
  · cases hv
theorem pvLoad_mono {st st' : St} (h : ConsLe st st') (hb : st.bx = st'.bx) {T : TypeId} {x : AV} {v : AV} (hv : pvLoad P st' T x = some v) : pvLoad P st T x = some v := by
  unfold pvLoad at hv ⊢
  split at hv
  · rw [hb]; exact hv
  · exact need_mono (fun hc => ⟨hc.1, hc.2.1, alive_mono h hc.2.2⟩) hv
  · cases hv
theorem fillAV_mono {st st' : St} (h : ConsLe st st') {T : TypeId} : ∀ (parts : List (Nat × AV)) {cs l : List AV}, fillAV P st' T cs parts = some l → fillAV P st T cs parts = some l
  | [], _, _, hv => hv
  | (i, v) :: r, cs, l, hv => by
    simp only [fillAV] at hv ⊢
    obtain ⟨p, h1, h2⟩ := Option.bind_eq_some_iff.1 hv
    rw [h1, Option.bind_some]
    exact need_mono2 (fun hc => ⟨solid_mono h hc.1, hc.2⟩) (fillAV_mono h r) h2
theorem pvBuild_mono {st st' : St} (h : ConsLe st st') {T : TypeId} {parts : List (Nat × AV)} {v : AV} (hv : pvBuild P st' T parts = some v) : pvBuild P st T parts = some v := by
  unfold pvBuild at hv ⊢
  obtain ⟨p, h1, h2⟩ := Option.bind_eq_some_iff.1 hv
  rw [h1, Option.bind_some]
  refine need_mono2 id (fun hx => ?_) h2
  obtain ⟨l, h3, rfl⟩ := Option.map_eq_some_iff.1 hx
  rw [fillAV_mono h parts h3]; rfl
theorem pvBuiltin_mono {st st' : St} (h : ConsLe st st') {b : Builtin} {ts : List TypeId} {xs : List AV} {v : AV} (hv : pvBuiltin P st' b ts xs = some v) : pvBuiltin P st b ts xs = some v := by
  unfold pvBuiltin at hv ⊢
  split at hv
  · exact hv
  · split at hv
    · exact need_mono (fun hc => alive_mono h hc) hv
    · cases hv
  · exact hv
  · exact hv
  · exact hv
  · cases hv
/-- Is the operation one that loads? -/
def isLoad (o : Oper) : Bool :=
  match o.op with
  | .load _ _ => true
  | _ => false
theorem ev_agree {st st' : St} {T : TypeId} {x : Operand} (h : ∀ t, x = .tmp t → st.s t = st'.s t) : st.ev P T x = st'.ev P T x := by
  cases x with
  | tmp t => exact h t rfl
  | _ => rfl
theorem pv_mono {st st' : St} (h : ConsLe st st') {o : Oper} (ha : ∀ T, ∀ x ∈ o.op.operands.toList, st.ev P T x = st'.ev P T x) (hb : isLoad o = true → st.bx = st'.bx) {v : AV}
    (hv : pv P st' o = some v) : pv P st o = some v := by
  obtain ⟨dst, op, ty, pos, after, guard⟩ := o
  simp only at ha
  unfold pv at hv ⊢
  simp only at hv ⊢
  cases op
  case move x =>
    dsimp only at hv ⊢
    rw [ha _ x (by simp [Op.operands])]; exact hv
  case assign x =>
    dsimp only at hv ⊢
    rw [ha _ x (by simp [Op.operands])]; exact hv
  case pick c a b =>
    dsimp only at hv ⊢
    rw [ha _ c (by simp [Op.operands]), ha _ a (by simp [Op.operands]), ha _ b (by simp [Op.operands])]; exact hv
  case nilCheck x =>
    dsimp only at hv ⊢
    rw [ha _ x (by simp [Op.operands])]
    split at hv
    · exact hv
    · exact need_mono (fun hc => alive_mono h hc) hv
    · exact hv
    · cases hv
  case binOp op T x y U =>
    dsimp only at hv ⊢
    rw [ha _ x (by simp [Op.operands]), ha _ y (by simp [Op.operands])]; exact pvBin_mono h hv
  case unOp op T x =>
    dsimp only at hv ⊢
    rw [ha _ x (by simp [Op.operands])]; exact hv
  case convert s d x =>
    dsimp only at hv ⊢
    rw [ha _ x (by simp [Op.operands])]; exact pvConv_mono h hv
  case makeFunc f first cap =>
    cases f with
    | func g =>
      dsimp only at hv ⊢
      have e : cap.toList.map (st.ev P 0) = cap.toList.map (st'.ev P 0) := List.map_congr_left fun x hx => ha _ x (by simp [Op.operands]; exact .inr (by simpa using hx))
      refine need_mono2 (fun hc => ⟨hc.1, ?_⟩) (fun hx => ?_) hv
      · rw [e]
        exact List.all_eq_true.2 fun x hx => one_mono h (List.all_eq_true.1 hc.2 x hx)
      · rw [e]; exact hx
    | _ => cases hv
  case slice T x lo hi mx =>
    dsimp only at hv ⊢
    have e : ∀ (z : Option Operand), (∀ y ∈ z, y ∈ (Op.slice T x lo hi mx).operands.toList) → z.map (st.ev P 0) = z.map (st'.ev P 0) := by
      intro z hz
      cases z with
      | none => rfl
      | some y => simp only [Option.map_some]; rw [ha _ y (hz y rfl)]
    rw [ha _ x (by simp [Op.operands]), e lo (fun y hy => by simp at hy; simp [Op.operands, hy]), e hi (fun y hy => by simp at hy; simp [Op.operands, hy]), e mx (fun y hy => by simp at hy; simp [Op.operands, hy])]
    exact pvSlice_mono h hv
  case fieldAddr S x f =>
    dsimp only at hv ⊢
    rw [ha _ x (by simp [Op.operands])]; exact pvFieldAddr_mono h hv
  case field S x f =>
    dsimp only at hv ⊢
    rw [ha _ x (by simp [Op.operands])]; exact hv
  case indexAddr T x i =>
    dsimp only at hv ⊢
    rw [ha _ x (by simp [Op.operands]), ha _ i (by simp [Op.operands])]; exact pvIndexAddr_mono h hv
  case index T x i =>
    dsimp only at hv ⊢
    rw [ha _ x (by simp [Op.operands]), ha _ i (by simp [Op.operands])]; exact hv
  case load T x =>
    dsimp only at hv ⊢
    rw [ha _ x (by simp [Op.operands])]; exact pvLoad_mono h (hb rfl) hv
  case extract t i =>
    dsimp only at hv ⊢
    rw [ha _ t (by simp [Op.operands])]; exact hv
  case build T parts =>
    dsimp only at hv ⊢
    have e : (parts.toList.map fun p => (p.1, st.ev P (partTy P T p.1) p.2)) = parts.toList.map fun p => (p.1, st'.ev P (partTy P T p.1) p.2) :=
      List.map_congr_left fun p hp => by rw [ha _ p.2 (by simp [Op.operands]; exact ⟨p.1, by simpa using hp⟩)]
    rw [e]; exact pvBuild_mono h hv
  case call c =>
    dsimp only at hv ⊢
    split at hv
    · rename_i b hb
      have e : ∀ T, c.args.toList.map (st.ev P T) = c.args.toList.map (st'.ev P T) := fun T => List.map_congr_left fun x hx => ha _ x (by simp [Op.operands, Call.operands]; exact .inr (by simpa using hx))
      rw [e]; exact pvBuiltin_mono h hv
    · cases hv
  all_goals cases hv
end Go.VS
namespace Go.VS
set_option linter.unusedVariables false
set_option linter.unusedSimpArgs false
set_option linter.unusedSectionVars false
open Go
variable {P : Program}
def isBox (o : Oper) : Bool :=
  match o.op with
  | .alloc _ => true
  | .box _ _ => true
  | _ => false
def isStore (o : Oper) : Bool :=
  match o.op with
  | .store _ _ _ => true
  | _ => false
/-- Nothing but a value comes of it. -/
def quiet (P : Program) (o : Oper) : Bool :=
  match o.op with
  | .move _ | .assign _ | .pick .. | .nilCheck _ | .binOp .. | .unOp .. | .slice .. | .fieldAddr .. | .field .. | .indexAddr .. | .index .. | .load .. | .extract .. | .build .. | .makeFunc .. => true
  | .convert _ d _ =>
    match P.underlying d with
    | some (.slice _) => false
    | _ => true
  | .call c =>
    match c.callee with
    | .builtin .append => false
    | .builtin _ => true
    | _ => false
  | _ => false
theorem quiet_step {n : Nat} {st : St} {o : Oper} (hq : quiet P o = true) {x : St ⊕ (FuncId × List AV)} (h : vstep P n st o = some x) :
    ∃ v, pv P st o = some v ∧ St.fits n o.dst = true ∧ x = .inl (st.putO o.dst v) := by
  have hpv : need (St.fits n o.dst = true) ((pv P st o).bind fun v => some (.inl (st.putO o.dst v))) = some x → ∃ v, pv P st o = some v ∧ St.fits n o.dst = true ∧ x = .inl (st.putO o.dst v) := by
    intro h
    obtain ⟨h1, h2⟩ := need_some h
    obtain ⟨v, h3, h4⟩ := Option.bind_eq_some_iff.1 h2
    cases h4
    exact ⟨v, h3, h1, rfl⟩
  unfold quiet at hq
  unfold vstep at h
  split at h
  all_goals (rename_i ho; first | (exfalso; rw [ho] at hq; simp at hq; done) | skip)
  · rename_i S d x0
    obtain ⟨h1, h2⟩ := need_some h
    split at h2
    · rename_i v hv
      cases h2
      exact ⟨v, hv, h1, rfl⟩
    · obtain ⟨s, h3, h4⟩ := Option.bind_eq_some_iff.1 h2
      rw [ho] at hq
      simp only at hq
      exfalso
      unfold convOp at h3
      rw [ho] at h3
      simp only at h3
      split at h3
      · unfold sliceOp at h3
        rw [ho] at h3
        split at h3
        · rename_i e _; cases e
        · rename_i e _; cases e
        · rename_i e _
          cases e
          split at h3
          · rename_i hE
            rw [hE] at hq
            cases hq
          · cases h3
        · cases h3
      · unfold markOp at h3
        rw [ho] at h3
        simp only at h3
        split at h3
        · rename_i hE _
          rw [hE] at hq
          cases hq
        · cases h3
  · rename_i c
    rw [ho] at hq
    simp only at hq
    split at h
    · rename_i hb
      rw [hb] at hq; cases hq
    · rename_i hb
      rw [hb] at hq; cases hq
    · exact hpv h
  · exact hpv h
theorem vstep_quiet {n : Nat} {st : St} {o : Oper} (hq : quiet P o = true) {v : AV} (h : pv P st o = some v) (hf : St.fits n o.dst = true) :
    vstep P n st o = some (.inl (st.putO o.dst v)) := by
  have e : need (St.fits n o.dst = true) ((pv P st o).bind fun v => some (Sum.inl (β := FuncId × List AV) (st.putO o.dst v))) = some (.inl (st.putO o.dst v)) := by
    simp [need, hf, h]
  unfold quiet at hq
  unfold vstep
  split
  all_goals (rename_i ho; first | (exfalso; rw [ho] at hq; simp at hq; done) | skip)
  · simp [need, hf, h]
  · rename_i c
    rw [ho] at hq
    simp only at hq
    split
    · rename_i hb
      rw [hb] at hq; cases hq
    · rename_i hb
      rw [hb] at hq; cases hq
    · exact e
  · exact e
/-- What an operation leaves as it was. -/
structure Eff (o : Oper) (st s : St) : Prop where
  le : ConsLe st s
  slots : ∀ t, o.dst ≠ some t → s.s t = st.s t
  bx : s.bx = st.bx
theorem putO_slots {st : St} {d : Option Nat} {v : AV} : ∀ t, d ≠ some t → (st.putO d v).s t = st.s t := by
  intro t ht
  cases d with
  | none => rfl
  | some d => exact upd_ne _ _ (fun e => ht (by rw [e]))
theorem Eff.putO (o : Oper) (st : St) (v : AV) : Eff o st (st.putO o.dst v) :=
  ⟨fun g h => by cases hd : o.dst <;> exact h, putO_slots, by cases hd : o.dst <;> rfl⟩
theorem ConsLe.upd {st : St} {x y : Stamp → Bool} (h : ∀ g, x g = true → y g = true) (hx : st.cons = x) {s : St} (hy : s.cons = y) : ConsLe st s := fun g hg => by rw [hy]; exact h g (by rw [← hx]; exact hg)
theorem updS_le {f : Stamp → Bool} {k g : Stamp} (h : f g = true) : updS f k true g = true := by
  unfold updS
  split <;> first | rfl | exact h
theorem mkNews_le : ∀ (ks : List Nat) (st : St), ConsLe st (st.mkNews ks) ∧ (st.mkNews ks).s = st.s ∧ (st.mkNews ks).bx = st.bx
  | [], st => ⟨fun _ h => h, rfl, rfl⟩
  | k :: ks, st => by
    obtain ⟨h1, h2, h3⟩ := mkNews_le ks (st.mkNew k)
    exact ⟨fun g hg => h1 g (updS_le hg), h2, h3⟩
theorem appOp_eff {st s : St} {o : Oper} (h : appOp P st o = some s) : Eff o st s := by
  unfold appOp at h
  split at h
  · rename_i c d ho hd
    split at h
    · split at h
      · split at h
        · obtain ⟨l', _, h⟩ := Option.bind_eq_some_iff.1 h
          obtain ⟨_, h⟩ := need_some h
          split at h <;> (obtain ⟨_, h⟩ := need_some h; cases h)
          · exact ⟨fun g hg => updS_le hg, fun t ht => upd_ne _ _ (fun e => ht (by rw [hd, e])), rfl⟩
          · exact ⟨fun g hg => updS_le hg, fun t ht => upd_ne _ _ (fun e => ht (by rw [hd, e])), rfl⟩
        · cases h
      · cases h
    · cases h
  · cases h
theorem freezeL_eff (gs : List Stamp) (st : St) : ConsLe st (st.freezeL gs) ∧ (st.freezeL gs).s = st.s ∧ (st.freezeL gs).bx = st.bx := by
  obtain ⟨h1, h2, h3, _⟩ := freezeL_same gs st
  exact ⟨fun g hg => by rw [h3]; exact hg, h1, h2⟩
theorem sliceOp_eff {st s : St} {o : Oper} (h : sliceOp P st o = some s) : Eff o st s := by
  unfold sliceOp at h
  split at h
  · rename_i ho hd
    split at h
    · obtain ⟨z0, _, h⟩ := Option.bind_eq_some_iff.1 h
      obtain ⟨r, _, h⟩ := Option.bind_eq_some_iff.1 h
      obtain ⟨_, h⟩ := need_some h
      cases h
      obtain ⟨h1, h2, h3⟩ := freezeL_eff r.2 st
      exact ⟨fun g hg => updS_le (h1 g hg), fun t ht => (upd_ne _ _ (fun e => ht (by rw [hd, e]))).trans (by simp only [St.mkNew, h2]), h3⟩
    · cases h
  · rename_i ho hd
    split at h
    · obtain ⟨z0, _, h⟩ := Option.bind_eq_some_iff.1 h
      obtain ⟨l, _, h⟩ := Option.bind_eq_some_iff.1 h
      obtain ⟨c, _, h⟩ := Option.bind_eq_some_iff.1 h
      obtain ⟨_, h⟩ := need_some h
      cases h
      exact ⟨fun g hg => updS_le hg, fun t ht => upd_ne _ _ (fun e => ht (by rw [hd, e])), rfl⟩
    · cases h
  · rename_i ho hd
    split at h
    · split at h
      · obtain ⟨_, h⟩ := need_some h
        cases h
        exact ⟨fun g hg => updS_le hg, fun t ht => upd_ne _ _ (fun e => ht (by rw [hd, e])), rfl⟩
      · obtain ⟨_, h⟩ := need_some h
        cases h
        exact ⟨fun g hg => updS_le hg, fun t ht => upd_ne _ _ (fun e => ht (by rw [hd, e])), rfl⟩
      · cases h
    · cases h
  · cases h
theorem convOp_eff {st s : St} {o : Oper} (h : convOp P st o = some s) : Eff o st s := by
  unfold convOp at h
  split at h
  · split at h
    · exact sliceOp_eff h
    · unfold markOp at h
      split at h
      · split at h
        · obtain ⟨_, h⟩ := need_some h
          cases h
          exact Eff.putO o st _
        · cases h
      · cases h
  · cases h
theorem callSt_eff {st s : St} {o : Oper} {as : List AV} {r : AV} (h : callSt st o.dst as r = some s) : Eff o st s := by
  unfold callSt at h
  split at h
  · cases h; exact Eff.putO o st r
  · split at h
    · rename_i d hd
      simp only at h
      obtain ⟨_, h⟩ := need_some h
      cases h
      obtain ⟨h1, h2, h3⟩ := freezeL_eff (as.flatMap stampsOf) st
      obtain ⟨g1, g2, g3⟩ := mkNews_le ((posOf r).map (nm d)) (st.freezeL (as.flatMap stampsOf))
      exact ⟨fun g hg => g1 g (h1 g hg), fun t ht => (upd_ne _ _ (fun e => ht (by rw [hd, e]))).trans (by rw [g2, h2]), g3.trans h3⟩
    · cases h
theorem vstep_eff {n : Nat} {st s : St} {o : Oper} (hb : isBox o = false) (hs : isStore o = false) (h : vstep P n st o = some (.inl s)) : Eff o st s := by
  have hpv : need (St.fits n o.dst = true) ((pv P st o).bind fun v => some (.inl (st.putO o.dst v))) = some (Sum.inl (β := FuncId × List AV) s) → Eff o st s := by
    intro h
    obtain ⟨h1, h2⟩ := need_some h
    obtain ⟨v, h3, h4⟩ := Option.bind_eq_some_iff.1 h2
    cases h4
    exact Eff.putO o st v
  have hsl : need (St.fits n o.dst = true) ((sliceOp P st o).bind fun s => some (.inl s)) = some (Sum.inl (β := FuncId × List AV) s) → Eff o st s := by
    intro h
    obtain ⟨h1, h2⟩ := need_some h
    obtain ⟨v, h3, h4⟩ := Option.bind_eq_some_iff.1 h2
    cases h4
    exact sliceOp_eff h3
  unfold vstep at h
  split at h
  · rename_i ho; simp [isBox, ho] at hb
  · rename_i ho; simp [isBox, ho] at hb
  · rename_i ho; simp [isStore, ho] at hs
  · exact hsl h
  · exact hsl h
  · obtain ⟨h1, h2⟩ := need_some h
    split at h2
    · cases h2; exact Eff.putO o st _
    · obtain ⟨v, h3, h4⟩ := Option.bind_eq_some_iff.1 h2
      cases h4
      exact convOp_eff h3
  · split at h
    · obtain ⟨h1, h2⟩ := need_some h
      obtain ⟨v, h3, h4⟩ := Option.bind_eq_some_iff.1 h2
      cases h4
      exact appOp_eff h3
    · obtain ⟨fa, h1, h2⟩ := Option.bind_eq_some_iff.1 h
      obtain ⟨_, h3⟩ := need_some h2
      cases h3
    · exact hpv h
  · exact hpv h
theorem vguard_eff {n : Nat} {ops : Array Oper} {st : St} {o : Oper} {K : St → Prop} (hb : isBox o = false) (hs : isStore o = false) (h : vguard n ops st o (vop P n st o) K) :
    vguard n ops st o (vop P n st o) (fun s => Eff o st s ∧ K s) ∧ ∃ s, Eff o st s ∧ K s := by
  have hv : vop P n st o K → vop P n st o (fun s => Eff o st s ∧ K s) ∧ ∃ s, Eff o st s ∧ K s := by
    intro h
    unfold vop at h ⊢
    split at h
    · rename_i s e
      exact ⟨⟨vstep_eff hb hs e, h⟩, s, vstep_eff hb hs e, h⟩
    · rename_i fa e
      obtain ⟨r, h1, h2⟩ := h
      split at h2
      · rename_i s hs
        refine ⟨⟨r, h1, ?_⟩, s, callSt_eff hs, h2⟩
        simp only [hs]
        exact ⟨callSt_eff hs, h2⟩
      · exact h2.elim
    · exact h.elim
  unfold vguard at h ⊢
  split at h
  · exact hv h
  · split at h
    · split at h
      · rename_i j want hg _ g hgd _ b hb'
        refine ⟨⟨fun e => (hv (h.1 e)).1, fun e => ⟨(h.2 e).1, Eff.putO o st _, (h.2 e).2⟩⟩, ?_⟩
        by_cases e : b = want
        · exact (hv (h.1 e)).2
        · exact ⟨_, Eff.putO o st _, (h.2 e).2⟩
      · exact ⟨⟨h.1, Eff.putO o st _, h.2⟩, _, Eff.putO o st _, h.2⟩
      · exact h.elim
    · exact h.elim
end Go.VS
namespace Go.VS
set_option linter.unusedVariables false
set_option linter.unusedSimpArgs false
set_option linter.unusedSectionVars false
open Go
variable {P : Program}
theorem need_eq {α : Type} {c : Prop} [Decidable c] {x : Option α} (h : c) : need c x = x := if_pos h
theorem put_put {st : St} {d e : Nat} {u v : AV} (h : e ≠ d) : (st.put d v).put e u = (st.put e u).put d v := by
  unfold St.put
  congr 1
  funext t
  simp only [upd]
  by_cases h1 : t = e <;> by_cases h2 : t = d <;> simp_all
theorem put_putO {st : St} {d : Nat} {e : Option Nat} {u v : AV} (h : e ≠ some d) : (st.put d v).putO e u = (st.putO e u).put d v := by
  cases e with
  | none => rfl
  | some e => exact put_put (fun x => h (by rw [x]))
theorem ev_put {st : St} {d : Nat} {v : AV} {T : TypeId} {x : Operand} (h : x ≠ .tmp d) : (st.put d v).ev P T x = st.ev P T x := by
  cases x with
  | tmp t => exact upd_ne _ _ (fun e => h (by rw [e]))
  | _ => rfl
theorem freezeL_put : ∀ (gs : List Stamp) (st : St) (d : Nat) (v : AV), (st.put d v).freezeL gs = (st.freezeL gs).put d v
  | [], _, _, _ => rfl
  | g :: gs, st, d, v => freezeL_put gs ({ st with frz := updS st.frz g true } : St) d v
theorem mkNews_put : ∀ (ks : List Nat) (st : St) (d : Nat) (v : AV), (st.put d v).mkNews ks = (st.mkNews ks).put d v
  | [], _, _, _ => rfl
  | k :: ks, st, d, v => mkNews_put ks (st.mkNew k) d v
theorem fillElems_put {st : St} {d : Nat} {v : AV} {sz : Nat} : ∀ (parts : List (Nat × AV)) (l : List AV), fillElems (st.put d v) sz l parts = fillElems st sz l parts
  | [], _ => rfl
  | (i, u) :: r, l => by
    simp only [fillElems]
    rw [fillElems_put r]
    rfl
section
variable {st : St} {d : Nat} {v : AV} {o : Oper} (ha : ∀ x ∈ o.op.operands.toList, x ≠ .tmp d)
include ha
theorem storeBox_put : storeBox P (st.put d v) o = storeBox P st o := by
  unfold storeBox
  split
  · rename_i T a x ho
    rw [ho] at ha
    rw [ev_put (ha a (by simp [Op.operands])), ev_put (ha x (by simp [Op.operands]))]
    rfl
  · rfl
omit ha in
theorem evArgs_put : ∀ (xs : List Operand) (ts : List TypeId), (∀ x ∈ xs, x ≠ .tmp d) → evArgs P (st.put d v) xs ts = evArgs P st xs ts
  | [], _, _ => rfl
  | x :: xs, t :: ts, h => by simp only [evArgs]; rw [ev_put (h x (by simp)), evArgs_put xs ts (fun y hy => h y (by simp [hy]))]
  | x :: xs, [], h => by simp only [evArgs]; rw [ev_put (h x (by simp)), evArgs_put xs [] (fun y hy => h y (by simp [hy]))]
theorem calls_put : calls P (st.put d v) o = calls P st o := by
  unfold calls
  split
  · rename_i c ho
    rw [ho] at ha
    split
    · rename_i x hx
      rw [ev_put (ha x (by simp [Op.operands, Call.operands, hx])), evArgs_put _ _ (fun y hy => ha y (by simp [Op.operands, Call.operands]; exact .inr (by simpa using hy)))]
    · rfl
  · rfl
theorem appOp_put (hne : o.dst ≠ some d) {s : St} (h : appOp P st o = some s) : appOp P (st.put d v) o = some (s.put d v) := by
  unfold appOp at h ⊢
  split at h
  · rename_i c e ho hd
    rw [ho] at ha
    have hed : e ≠ d := fun x => hne (by rw [hd, x])
    split at h
    · rename_i s0 x0 ts tx hcal hargs htys
      have h1 : ∀ y ∈ c.args.toList, y ≠ .tmp d := fun y hy => ha y (by simp [Op.operands, Call.operands]; exact .inr (by simpa using hy))
      rw [hargs] at h1
      split at h
      · rename_i hE
        rw [ev_put (h1 s0 (by simp)), ev_put (h1 x0 (by simp))]
        split at h
        · rename_i hs
          obtain ⟨l', h2, h⟩ := Option.bind_eq_some_iff.1 h
          obtain ⟨h3, h⟩ := need_some h
          have h2' : srcAll P (st.put d v) tx _ (st.ev P tx x0) = some l' := h2
          rw [h2', Option.bind_some]
          split at h <;> obtain ⟨h4, h⟩ := need_some h <;> cases h
          · refine (need_eq h3).trans ((need_eq h4).trans ?_)
            congr 1
            exact put_put (st := st.mkNew e) hed
          · refine (need_eq h3).trans ((need_eq h4).trans ?_)
            congr 1
            exact put_put (st := st.eat _ e) hed
        · cases h
      · cases h
    · cases h
  · cases h
theorem sliceOp_put (hne : o.dst ≠ some d) {s : St} (h : sliceOp P st o = some s) : sliceOp P (st.put d v) o = some (s.put d v) := by
  unfold sliceOp at h ⊢
  split at h
  · rename_i T k parts e ho hd
    rw [ho] at ha
    have hed : e ≠ d := fun x => hne (by rw [hd, x])
    split at h
    · obtain ⟨z0, h1, h⟩ := Option.bind_eq_some_iff.1 h
      obtain ⟨r, h2, h⟩ := Option.bind_eq_some_iff.1 h
      obtain ⟨h3, h⟩ := need_some h
      cases h
      have e1 : ∀ T, (parts.toList.map fun p => (p.1, (st.put d v).ev P T p.2)) = parts.toList.map fun p => (p.1, st.ev P T p.2) := fun T =>
        List.map_congr_left fun p hp => by rw [ev_put (ha p.2 (by simp [Op.operands]; exact ⟨p.1, by simpa using hp⟩))]
      rw [h1, Option.bind_some, e1, fillElems_put, h2, Option.bind_some, freezeL_put]
      refine (need_eq h3).trans ?_
      congr 1
      exact put_put (st := (st.freezeL r.2).mkNew e) hed
    · cases h
  · rename_i T len cap e ho hd
    rw [ho] at ha
    have hed : e ≠ d := fun x => hne (by rw [hd, x])
    split at h
    · obtain ⟨z0, h1, h⟩ := Option.bind_eq_some_iff.1 h
      obtain ⟨l, h2, h⟩ := Option.bind_eq_some_iff.1 h
      obtain ⟨c, h3, h⟩ := Option.bind_eq_some_iff.1 h
      obtain ⟨h4, h⟩ := need_some h
      cases h
      rw [h1, Option.bind_some, ev_put (ha len (by simp [Op.operands])), h2, Option.bind_some, ev_put (ha cap (by simp [Op.operands])), h3, Option.bind_some]
      refine (need_eq h4).trans ?_
      congr 1
      exact put_put (st := st.mkNew e) hed
    · cases h
  · rename_i S T x e ho hd
    rw [ho] at ha
    have hed : e ≠ d := fun x => hne (by rw [hd, x])
    split at h
    · rw [ev_put (ha x (by simp [Op.operands]))]
      split at h
      · obtain ⟨h4, h⟩ := need_some h
        cases h
        refine (need_eq h4).trans ?_
        congr 1
        exact put_put (st := st.mkNew e) hed
      · obtain ⟨h4, h⟩ := need_some h
        cases h
        refine (need_eq h4).trans ?_
        congr 1
        exact put_put (st := st.mkNew e) hed
      · cases h
    · cases h
  · cases h
theorem convOp_put (hne : o.dst ≠ some d) {s : St} (h : convOp P st o = some s) : convOp P (st.put d v) o = some (s.put d v) := by
  unfold convOp at h ⊢
  split at h
  · rename_i S T x ho
    have ha' := ha
    rw [ho] at ha'
    rw [ev_put (ha' x (by simp [Op.operands]))]
    split at h
    · exact sliceOp_put ha hne h
    · unfold markOp at h ⊢
      rw [ho] at h ⊢
      simp only at h ⊢
      rw [ev_put (ha' x (by simp [Op.operands]))]
      split at h
      · obtain ⟨h4, h⟩ := need_some h
        cases h
        refine (need_eq h4).trans ?_
        rw [put_putO hne]
      · cases h
  · cases h
end
theorem callSt_put {st s : St} {d : Nat} {v r : AV} {e : Option Nat} {as : List AV} (hne : e ≠ some d) (h : callSt st e as r = some s) : callSt (st.put d v) e as r = some (s.put d v) := by
  unfold callSt at h ⊢
  split at h
  · cases h
    rename_i hr
    rw [if_pos hr, put_putO hne]
  · rename_i hr
    rw [if_neg hr]
    split at h
    · simp only at h ⊢
      obtain ⟨h1, h⟩ := need_some h
      cases h
      rw [freezeL_put, mkNews_put]
      refine (need_eq h1).trans ?_
      congr 1
      exact put_put (fun x => hne (by rw [x]))
    · cases h
theorem vstep_put {n : Nat} {st : St} {d : Nat} {v : AV} {o : Oper} (ha : ∀ x ∈ o.op.operands.toList, x ≠ .tmp d) (hne : o.dst ≠ some d) (hb : isBox o = false) (hs : isStore o = false) :
    (∀ s, vstep P n st o = some (.inl s) → vstep P n (st.put d v) o = some (.inl (s.put d v))) ∧ (∀ fa, vstep P n st o = some (.inr fa) → vstep P n (st.put d v) o = some (.inr fa)) := by
  have hpv1 : ∀ u, pv P st o = some u → pv P (st.put d v) o = some u := fun u hu => pv_mono (st := st.put d v) (st' := st) (fun g hg => hg) (fun T x hx => ev_put (ha x hx)) (fun _ => rfl) hu
  have hpv : ∀ s, need (St.fits n o.dst = true) ((pv P st o).bind fun v => some (.inl (st.putO o.dst v))) = some (Sum.inl (β := FuncId × List AV) s) →
      need (St.fits n o.dst = true) ((pv P (st.put d v) o).bind fun u => some (.inl ((st.put d v).putO o.dst u))) = some (Sum.inl (β := FuncId × List AV) (s.put d v)) := by
    intro s h
    obtain ⟨h1, h2⟩ := need_some h
    obtain ⟨u, h3, h4⟩ := Option.bind_eq_some_iff.1 h2
    cases h4
    rw [need, if_pos h1, hpv1 u h3, Option.bind_some, put_putO hne]
  have hsl : ∀ s, need (St.fits n o.dst = true) ((sliceOp P st o).bind fun s => some (.inl s)) = some (Sum.inl (β := FuncId × List AV) s) →
      need (St.fits n o.dst = true) ((sliceOp P (st.put d v) o).bind fun s => some (.inl s)) = some (Sum.inl (β := FuncId × List AV) (s.put d v)) := by
    intro s h
    obtain ⟨h1, h2⟩ := need_some h
    obtain ⟨u, h3, h4⟩ := Option.bind_eq_some_iff.1 h2
    cases h4
    rw [need, if_pos h1, sliceOp_put ha hne h3, Option.bind_some]
  have hno : ∀ fa : FuncId × List AV, need (St.fits n o.dst = true) ((pv P st o).bind fun v => some (.inl (st.putO o.dst v))) = some (Sum.inr (α := St) fa) → False := by
    intro s h
    obtain ⟨h1, h2⟩ := need_some h
    obtain ⟨u, h3, h4⟩ := Option.bind_eq_some_iff.1 h2
    cases h4
  have hno2 : ∀ fa : FuncId × List AV, need (St.fits n o.dst = true) ((sliceOp P st o).bind fun s => some (.inl s)) = some (Sum.inr (α := St) fa) → False := by
    intro s h
    obtain ⟨h1, h2⟩ := need_some h
    obtain ⟨u, h3, h4⟩ := Option.bind_eq_some_iff.1 h2
    cases h4
  unfold vstep
  split
  · rename_i ho; simp [isBox, ho] at hb
  · rename_i ho; simp [isBox, ho] at hb
  · rename_i ho; simp [isStore, ho] at hs
  · exact ⟨hsl, fun fa h => (hno2 fa h).elim⟩
  · exact ⟨hsl, fun fa h => (hno2 fa h).elim⟩
  · rename_i S T x ho
    refine ⟨fun s h => ?_, fun fa h => ?_⟩
    · obtain ⟨h1, h2⟩ := need_some h
      rw [need, if_pos h1]
      split at h2
      · rename_i u hu
        cases h2
        rw [hpv1 u hu]
        simp only
        rw [put_putO hne]
      · rename_i hu
        obtain ⟨u, h3, h4⟩ := Option.bind_eq_some_iff.1 h2
        cases h4
        have hu' : pv P (st.put d v) o = none := by
          cases e : pv P (st.put d v) o with
          | none => rfl
          | some u' =>
            have := pv_mono (st := st) (st' := st.put d v) (fun g hg => hg) (fun T x hx => (ev_put (ha x hx)).symm) (fun _ => rfl) e
            rw [hu] at this; cases this
        rw [hu']
        simp only
        rw [convOp_put ha hne h3]; rfl
    · obtain ⟨h1, h2⟩ := need_some h
      split at h2
      · cases h2
      · obtain ⟨u, h3, h4⟩ := Option.bind_eq_some_iff.1 h2
        cases h4
  · split
    · refine ⟨fun s h => ?_, fun fa h => ?_⟩
      · obtain ⟨h1, h2⟩ := need_some h
        obtain ⟨u, h3, h4⟩ := Option.bind_eq_some_iff.1 h2
        cases h4
        rw [need, if_pos h1, appOp_put ha hne h3]; rfl
      · obtain ⟨h1, h2⟩ := need_some h
        obtain ⟨u, h3, h4⟩ := Option.bind_eq_some_iff.1 h2
        cases h4
    · refine ⟨fun s h => ?_, fun fa h => ?_⟩
      · obtain ⟨fa, h1, h2⟩ := Option.bind_eq_some_iff.1 h
        obtain ⟨_, h3⟩ := need_some h2
        cases h3
      · obtain ⟨fa', h1, h2⟩ := Option.bind_eq_some_iff.1 h
        obtain ⟨h3, h4⟩ := need_some h2
        cases h4
        rw [calls_put ha, h1, Option.bind_some, need]
        exact if_pos h3
    · exact ⟨hpv, fun fa h => (hno fa h).elim⟩
  · exact ⟨hpv, fun fa h => (hno fa h).elim⟩
theorem vop_put {n : Nat} {st : St} {d : Nat} {v : AV} {o : Oper} (ha : ∀ x ∈ o.op.operands.toList, x ≠ .tmp d) (hne : o.dst ≠ some d) (hb : isBox o = false) (hs : isStore o = false) {K K' : St → Prop}
    (hk : ∀ s, K s → K' (s.put d v)) (h : vop P n st o K) : vop P n (st.put d v) o K' := by
  obtain ⟨h1, h2⟩ := vstep_put (P := P) (n := n) (st := st) (v := v) ha hne hb hs
  unfold vop at h ⊢
  split at h
  · rename_i s e
    rw [h1 s e]
    exact hk s h
  · rename_i fa e
    rw [h2 fa e]
    obtain ⟨r, h3, h4⟩ := h
    refine ⟨r, h3, ?_⟩
    split at h4
    · rename_i s hs
      rw [callSt_put hne hs]
      exact hk s h4
    · exact h4.elim
  · exact h.elim
end Go.VS
namespace Go.VS
set_option linter.unusedVariables false
set_option linter.unusedSimpArgs false
set_option linter.unusedSectionVars false
open Go
variable {P : Program}
/-- The operation j may be carried out ahead of i. -/
def comm (P : Program) (ops : Array Oper) (i j : Oper) : Bool :=
  i.apart ops j && quiet P j && !isBox i && !isStore i
/-- What a quiet operation gives. -/
def jres (P : Program) (ops : Array Oper) (st : St) (o : Oper) : Option AV :=
  match o.guard with
  | none => pv P st o
  | some (j, want) =>
    match (ops[j]?).bind (·.dst) with
    | some g =>
      match st.s g with
      | .bool b => if b = want then pv P st o else some (.tup [])
      | .tup [] => some (.tup [])
      | _ => none
    | none => none
theorem vguard_quiet {n : Nat} {ops : Array Oper} {st : St} {o : Oper} (hq : quiet P o = true) {K : St → Prop} :
    vguard n ops st o (vop P n st o) K ↔ ∃ v, jres P ops st o = some v ∧ St.fits n o.dst = true ∧ K (st.putO o.dst v) := by
  have hv : vop P n st o K ↔ ∃ v, pv P st o = some v ∧ St.fits n o.dst = true ∧ K (st.putO o.dst v) := by
    constructor
    · intro h
      unfold vop at h
      split at h
      · rename_i s e
        obtain ⟨v, h1, h2, h3⟩ := quiet_step hq e
        cases h3
        exact ⟨v, h1, h2, h⟩
      · rename_i fa e
        obtain ⟨v, h1, h2, h3⟩ := quiet_step hq e
        cases h3
      · exact h.elim
    · rintro ⟨v, h1, h2, h3⟩
      unfold vop
      rw [vstep_quiet hq h1 h2]
      exact h3
  unfold vguard jres
  cases hg : o.guard with
  | none => exact hv
  | some p =>
    obtain ⟨j, want⟩ := p
    dsimp only
    cases hd : (ops[j]?).bind (·.dst) with
    | none => simp
    | some g =>
      dsimp only
      cases hs : st.s g with
      | bool b =>
        dsimp only
        by_cases e : b = want
        · simp only [e, ne_eq, not_true_eq_false, false_implies, and_true, true_implies, if_true]
          exact hv
        · simp only [e, false_implies, true_and, ne_eq, not_false_eq_true, true_implies, if_false, Option.some.injEq]
          constructor
          · exact fun h => ⟨_, rfl, h⟩
          · rintro ⟨v, rfl, h⟩; exact h
      | tup l =>
        cases l with
        | nil =>
          dsimp only
          constructor
          · exact fun h => ⟨_, rfl, h⟩
          · rintro ⟨v, hv, h⟩; cases hv; exact h
        | cons x y => simp
      | _ => simp
theorem jres_mono {ops : Array Oper} {st s : St} {i j : Oper} (hc : comm P ops i j = true) (he : Eff i st s) {v : AV} (h : jres P ops s j = some v) : jres P ops st j = some v := by
  unfold comm at hc
  simp only [Bool.and_eq_true, Bool.not_eq_true'] at hc
  obtain ⟨⟨⟨h1, h2⟩, h3⟩, h4⟩ := hc
  obtain ⟨a1, a2, a3⟩ := Oper.apart_spec h1
  have hs : ∀ t ∈ j.looksAt ops, s.s t = st.s t := fun t ht => he.slots t fun e => a1 t e ht
  have hpv : ∀ v, pv P s j = some v → pv P st j = some v := by
    intro v hv
    refine pv_mono he.le (fun T x hx => ev_agree fun t e => (hs t ?_).symm) (fun hl => ?_) hv
    · subst e
      unfold Oper.looksAt
      refine List.mem_append.2 (.inl (List.mem_filterMap.2 ⟨_, hx, rfl⟩))
    · exact he.bx.symm
  unfold jres at h ⊢
  split
  · rename_i hg
    rw [hg] at h
    exact hpv v h
  · rename_i g want hg
    rw [hg] at h
    simp only at h
    split at h
    · rename_i t ht
      rw [← hs t (by unfold Oper.looksAt; rw [hg]; simp [ht])]
      split at h
      · split at h
        · rename_i e; simp only [if_pos e]; exact hpv v h
        · rename_i e; simp only [if_neg e]; exact h
      · exact h
      · cases h
    · cases h
theorem vguard_putO {n : Nat} {ops : Array Oper} {st : St} {o : Oper} {d : Option Nat} {v : AV} (hl : ∀ k, d = some k → k ∉ o.looksAt ops) (hne : ∀ k, d = some k → o.dst ≠ some k) (hb : isBox o = false) (hst : isStore o = false)
    {K K' : St → Prop} (hk : ∀ s, K s → K' (s.putO d v)) (h : vguard n ops st o (vop P n st o) K) : vguard n ops (st.putO d v) o (vop P n (st.putO d v) o) K' := by
  cases d with
  | none => exact vguard_mono hk h
  | some d =>
    have hl := hl d rfl
    have hne := hne d rfl
    have ha : ∀ x ∈ o.op.operands.toList, x ≠ .tmp d := by
      rintro x hx rfl
      exact hl (List.mem_append.2 (.inl (List.mem_filterMap.2 ⟨_, hx, rfl⟩)))
    unfold vguard at h ⊢
    split at h
    · exact vop_put ha hne hb hst hk h
    · rename_i j want hg
      split at h
      · rename_i g hgd
        have hgne : g ≠ d := by
          rintro rfl
          exact hl (by unfold Oper.looksAt; rw [hg]; simp [hgd])
        simp only [St.putO, St.put, upd_ne _ _ hgne]
        split at h
        · refine ⟨fun e => vop_put ha hne hb hst hk (h.1 e), fun e => ⟨(h.2 e).1, ?_⟩⟩
          have := hk _ (h.2 e).2
          have e2 := put_putO (st := st) (v := v) (u := .tup []) hne
          change K' ((st.put d v).putO o.dst (.tup []))
          rw [e2]; exact this
        · refine ⟨h.1, ?_⟩
          have := hk _ h.2
          have e2 := put_putO (st := st) (v := v) (u := .tup []) hne
          change K' ((st.put d v).putO o.dst (.tup []))
          rw [e2]; exact this
        · exact h.elim
      · exact h.elim
/-- Two that stand one behind the other change places. -/
theorem swap {n : Nat} {ops : Array Oper} {st : St} {i j : Oper} {K : St → Prop} (hc : comm P ops i j = true)
    (h : vguard n ops st i (vop P n st i) fun s => vguard n ops s j (vop P n s j) K) : vguard n ops st j (vop P n st j) fun s => vguard n ops s i (vop P n s i) K := by
  have hc' := hc
  unfold comm at hc'
  simp only [Bool.and_eq_true, Bool.not_eq_true'] at hc'
  obtain ⟨⟨⟨h1, hq⟩, h3⟩, h4⟩ := hc'
  obtain ⟨a1, a2, a3⟩ := Oper.apart_spec h1
  obtain ⟨h5, s0, h6, h7⟩ := vguard_eff h3 h4 h
  obtain ⟨v, hv, hf, _⟩ := (vguard_quiet hq).1 h7
  have hv0 := jres_mono hc h6 hv
  refine (vguard_quiet hq).2 ⟨v, hv0, hf, ?_⟩
  refine vguard_putO (fun k hk => a3 k hk) (fun k hk e => a2 k e hk) h3 h4 ?_ h5
  rintro s ⟨he, hs⟩
  obtain ⟨v', hv', _, hK⟩ := (vguard_quiet hq).1 hs
  have := jres_mono hc he hv'
  rw [hv0] at this
  cases this
  exact hK
end Go.VS
namespace Go.VS
set_option linter.unusedVariables false
set_option linter.unusedSimpArgs false
set_option linter.unusedSectionVars false
open Go
variable {P : Program}
def dirs (o : Oper) : List Nat := (o.after.toList.filter fun e => Region.binds .any e).map (·.on)
/-- Which operations stand ahead of each: a bit for each. -/
def masks (ops : Array Oper) : List Nat :=
  ops.toList.foldl (fun acc o => acc ++ [(dirs o).foldl (fun m d => m ||| (1 <<< d) ||| acc.getD d 0) 0]) []
/-- An order: what does more than give a value stands as early as it may. -/
def autoOrder (P : Program) (ops : Array Oper) : List Nat :=
  let A := masks ops
  let n := ops.size
  let eff := (List.range n).filter fun i => match ops[i]? with | some o => !quiet P o | none => false
  let add (acc : List Nat) (i : Nat) : List Nat := if acc.contains i then acc else acc ++ [i]
  let l := eff.foldl (fun acc e => add (((List.range n).filter fun i => (A.getD e 0).testBit i).foldl add acc) e) []
  (List.range n).foldl add l
def tabOk (ops : Array Oper) (A : List Nat) : Bool :=
  (List.range ops.size).all fun k =>
    match ops[k]? with
    | some o => (List.range ops.size).all fun i => !(A.getD k 0).testBit i || (dirs o).contains i || (dirs o).any fun m => decide (m < k) && (A.getD m 0).testBit i
    | none => false
def pairOk (P : Program) (ops : Array Oper) (A : List Nat) (i j : Nat) : Bool :=
  match ops[i]?, ops[j]? with
  | some oi, some oj => !(dirs oi).contains j && ((A.getD j 0).testBit i || comm P ops oi oj)
  | _, _ => false
def pairsOk (P : Program) (ops : Array Oper) (A : List Nat) : List Nat → Bool
  | [] => true
  | i :: r => r.all (pairOk P ops A i) && pairsOk P ops A r
def orderOk (P : Program) (ops : Array Oper) (A is : List Nat) : Bool :=
  decide (is.length = ops.size) && is.all (fun k => decide (k < ops.size)) && decide is.Nodup && (List.range ops.size).all (fun k => is.contains k) && tabOk ops A && pairsOk P ops A is &&
  (List.range ops.size).all fun k =>
    match ops[k]? with
    | some o => (dirs o).all fun d => decide (d < ops.size) && d != k
    | none => false
def Shut (ops : Array Oper) (listed : Array Bool) : Prop :=
  ∀ k o, ops[k]? = some o → listed.getD k false = true → ∀ d ∈ dirs o, listed.getD d false = true
theorem tab_spec {ops : Array Oper} {A : List Nat} (hA : tabOk ops A = true) {listed : Array Bool} (hs : Shut ops listed) : ∀ (k : Nat) (o : Oper), ops[k]? = some o → (∀ d ∈ dirs o, listed.getD d false = true) →
    ∀ i, i < ops.size → (A.getD k 0).testBit i = true → listed.getD i false = true := by
  intro k
  induction k using Nat.strongRecOn with
  | _ k ih =>
    intro o ho hd i hi hb
    have hk : k < ops.size := (Array.getElem?_eq_some_iff.1 ho).1
    have h := List.all_eq_true.1 hA k (List.mem_range.2 hk)
    rw [ho] at h
    have h := List.all_eq_true.1 h i (List.mem_range.2 hi)
    simp only [Bool.or_eq_true, Bool.not_eq_true', hb, Bool.true_eq_false, false_or, List.contains_iff_mem, List.any_eq_true, Bool.and_eq_true, decide_eq_true_eq] at h
    rcases h with h | ⟨m, hm, hlt, hmb⟩
    · exact hd i h
    · have hl := hd m hm
      have hms : m < ops.size := by omega
      exact ih m hlt ops[m] (Array.getElem?_eq_getElem hms) (fun d hd' => hs m ops[m] (Array.getElem?_eq_getElem hms) hl d hd') i hi hmb
theorem mem_dirs {o : Oper} {d : Nat} : d ∈ dirs o ↔ ∃ e ∈ o.after, Region.binds .any e = true ∧ e.on = d := by
  unfold dirs
  simp only [List.mem_map, List.mem_filter, Array.mem_toList_iff]
  constructor
  · rintro ⟨e, ⟨h1, h2⟩, h3⟩; exact ⟨e, h1, h2, h3⟩
  · rintro ⟨e, h1, h2, h3⟩; exact ⟨e, ⟨h1, h2⟩, h3⟩
def VAny (P : Program) (n : Nat) (ops : Array Oper) (K : St → Prop) : Nat → Array Bool → St → Prop
  | 0, listed, st => Region.ready .any ops listed = [] ∧ K st
  | f + 1, listed, st => (Region.ready .any ops listed = [] → K st) ∧
      ∀ i ∈ Region.ready .any ops listed, ∃ o, ops[i]? = some o ∧ vguard n ops st o (vop P n st o) (VAny P n ops K f (listed.setIfInBounds i true))
theorem VAny_sound {X : Ent} {ops : Array Oper} {K : St → Prop} {Q : Exit → Act → World → Prop} (hK : ∀ st' C' a' w', K st' → Conc X st' C' a' w' → Q .normal a' w') :
    ∀ (f : Nat) (listed : Array Bool) (st : St), VAny P X.n ops K f listed st → ∀ (C : Ctx) (a : Act) (w : World), Conc X st C a w → wpAnyIn (Fr X.round) 0 P .any ops Q f listed a w
  | 0, _, st, h, C, a, w, hc => ⟨h.1, hK st C a w h.2 hc⟩
  | f + 1, listed, st, h, C, a, w, hc => by
    refine ⟨fun h0 => hK st C a w (h.1 h0) hc, fun i hi => ?_⟩
    obtain ⟨o, ho, hv⟩ := h.2 i hi
    exact vguard_sound ho hv hc fun st' C' a' w' h' hc' => VAny_sound hK f _ st' h' C' a' w' hc'
theorem bubble {n : Nat} {ops : Array Oper} {K : St → Prop} {j : Nat} {oj : Oper} (hj : ops[j]? = some oj) {post : List Nat} : ∀ (pre : List Nat) (st : St),
    (∀ i ∈ pre, ∀ oi, ops[i]? = some oi → comm P ops oi oj = true) → vidx P n ops (pre ++ j :: post) st K →
    vguard n ops st oj (vop P n st oj) fun s => vidx P n ops (pre ++ post) s K
  | [], st, _, h => by simpa [vidx, hj] using h
  | i :: pre, st, hc, h => by
    simp only [List.cons_append, vidx] at h
    split at h
    · rename_i oi hi
      have h2 := vguard_mono (K' := fun s => vguard n ops s oj (vop P n s oj) fun s => vidx P n ops (pre ++ post) s K)
        (fun s hs => bubble hj pre s (fun k hk => hc k (by simp [hk])) hs) h
      have h3 := swap (hc i (by simp) oi hi) h2
      refine vguard_mono (fun s hs => ?_) h3
      simp only [List.cons_append, vidx, hi]
      exact hs
    · exact h.elim
theorem pairsOk_app {ops : Array Oper} {A : List Nat} : ∀ (pre : List Nat) {j : Nat} {post : List Nat}, pairsOk P ops A (pre ++ j :: post) = true →
    (∀ i ∈ pre, pairOk P ops A i j = true) ∧ pairsOk P ops A (pre ++ post) = true
  | [], j, post, h => by
    simp only [List.nil_append, pairsOk, Bool.and_eq_true] at h
    exact ⟨by simp, h.2⟩
  | i :: pre, j, post, h => by
    simp only [List.cons_append, pairsOk, Bool.and_eq_true] at h
    obtain ⟨h1, h2⟩ := h
    obtain ⟨h3, h4⟩ := pairsOk_app pre h2
    have h5 := List.all_eq_true.1 h1
    refine ⟨?_, ?_⟩
    · intro k hk
      rcases List.mem_cons.1 hk with rfl | hk
      · exact h5 j (by simp)
      · exact h3 k hk
    · simp only [List.cons_append, pairsOk, Bool.and_eq_true]
      refine ⟨List.all_eq_true.2 fun k hk => h5 k ?_, h4⟩
      rcases List.mem_append.1 hk with hk | hk <;> simp [hk]
theorem getD_set {listed : Array Bool} {i j : Nat} (h : i < listed.size) (b : Bool) : (listed.setIfInBounds i true).getD j b = if j = i then true else listed.getD j b := by
  simp only [Array.getD_eq_getD_getElem?, Array.getElem?_setIfInBounds]
  by_cases e : i = j
  · subst e; simp [h]
  · simp [e, Ne.symm e]
theorem any_of_order {n : Nat} {ops : Array Oper} {A : List Nat} {K : St → Prop} (hA : tabOk ops A = true) (hd : ∀ k o, ops[k]? = some o → ∀ d ∈ dirs o, d < ops.size ∧ d ≠ k) :
    ∀ (f : Nat) (is : List Nat) (listed : Array Bool) (st : St), is.length = f → listed.size = ops.size → is.Nodup → (∀ k, k < ops.size → (k ∈ is ↔ listed.getD k false = false)) → (∀ k ∈ is, k < ops.size) →
      pairsOk P ops A is = true → Shut ops listed → vidx P n ops is st K → VAny P n ops K f listed st := by
  intro f
  induction f with
  | zero =>
    intro is listed st hl hsz hnd hmem hlt hp hs h
    have : is = [] := List.length_eq_zero_iff.1 hl
    subst this
    refine ⟨?_, h⟩
    cases hr : Region.ready .any ops listed with
    | nil => rfl
    | cons j r =>
      exfalso
      have hj : j ∈ Region.ready .any ops listed := by rw [hr]; simp
      obtain ⟨h1, o, ho, _⟩ := mem_ready.1 hj
      have hk : j < ops.size := (Array.getElem?_eq_some_iff.1 ho).1
      have := (hmem j hk).2 (by rw [Array.getD_eq_getD_getElem?] at h1 ⊢; rw [Array.getElem?_eq_getElem (by omega)] at h1 ⊢; exact h1)
      cases this
  | succ f ih =>
    intro is listed st hl hsz hnd hmem hlt hp hs h
    refine ⟨fun hr => ?_, fun j hj => ?_⟩
    · exfalso
      match is, hl with
      | i :: rest, _ =>
        have hi : i < ops.size := hlt i (by simp)
        have hio : ops[i]? = some ops[i] := Array.getElem?_eq_getElem hi
        have : i ∈ Region.ready .any ops listed := by
          refine mem_ready.2 ⟨?_, ops[i], hio, fun e he hb => ?_⟩
          · have := (hmem i hi).1 (by simp)
            rw [Array.getD_eq_getD_getElem?] at this ⊢; rw [Array.getElem?_eq_getElem (by omega)] at this ⊢; exact this
          · have hde : e.on ∈ dirs ops[i] := mem_dirs.2 ⟨e, he, hb, rfl⟩
            obtain ⟨h1, h2⟩ := hd i _ hio _ hde
            cases hle : listed.getD e.on false with
            | true => rfl
            | false =>
              exfalso
              have hin := (hmem e.on h1).2 hle
              rcases List.mem_cons.1 hin with hin | hin
              · exact h2 hin
              · simp only [pairsOk, Bool.and_eq_true] at hp
                have := List.all_eq_true.1 hp.1 _ hin
                unfold pairOk at this
                rw [hio, Array.getElem?_eq_getElem h1] at this
                simp [hde] at this
        rw [hr] at this; cases this
    · obtain ⟨h1, oj, ho, hpre⟩ := mem_ready.1 hj
      have hk : j < ops.size := (Array.getElem?_eq_some_iff.1 ho).1
      have hjin : j ∈ is := (hmem j hk).2 (by rw [Array.getD_eq_getD_getElem?] at h1 ⊢; rw [Array.getElem?_eq_getElem (by omega)] at h1 ⊢; exact h1)
      have hdj : ∀ d ∈ dirs oj, listed.getD d false = true := by
        intro d hd'
        obtain ⟨e, h2, h3, rfl⟩ := mem_dirs.1 hd'
        exact hpre e h2 h3
      obtain ⟨pre, post, rfl⟩ := List.append_of_mem hjin
      obtain ⟨hp1, hp2⟩ := pairsOk_app pre hp
      refine ⟨oj, ho, ?_⟩
      have hb := bubble ho pre st (fun i hi oi hoi => by
        have := hp1 i hi
        unfold pairOk at this
        rw [hoi, ho] at this
        simp only [Bool.and_eq_true, Bool.or_eq_true] at this
        rcases this.2 with h2 | h2
        · exfalso
          have hilt := hlt i (by simp [hi])
          have := tab_spec hA hs j oj ho hdj i hilt h2
          rw [(hmem i hilt).1 (by simp [hi])] at this; cases this
        · exact h2) h
      refine vguard_mono (fun s hsK => ?_) hb
      have hjs : j < listed.size := by omega
      have hnd' : (pre ++ post).Nodup ∧ j ∉ pre ++ post := by
        rw [List.nodup_append] at hnd
        obtain ⟨n1, n2, n3⟩ := hnd
        rw [List.nodup_cons] at n2
        refine ⟨List.nodup_append.2 ⟨n1, n2.2, fun a ha b hb => n3 a ha b (by simp [hb])⟩, ?_⟩
        intro hin
        rcases List.mem_append.1 hin with hin | hin
        · exact n3 j hin j (by simp) rfl
        · exact n2.1 hin
      refine ih (pre ++ post) _ s (by simp at hl ⊢; omega) (by simpa using hsz) hnd'.1 (fun k hk' => ?_) (fun k hk' => hlt k ?_) hp2 ?_ hsK
      · rw [getD_set hjs]
        have := hmem k hk'
        by_cases e : k = j
        · subst e
          simp only [if_true]
          constructor
          · intro x; exact absurd x hnd'.2
          · intro x; cases x
        · rw [if_neg e, ← this]
          simp [e]
      · rcases List.mem_append.1 hk' with hk' | hk' <;> simp [hk']
      · intro k o hko hlk d hdd
        rw [getD_set hjs] at hlk ⊢
        split
        · rfl
        · split at hlk
          · rename_i e
            subst e
            rw [ho] at hko; cases hko
            exact hdj d hdd
          · exact hs k o hko hlk d hdd
/-- A region that draws its order: one order stands for all. -/
theorem AWP.regionAny {X : Ent} {ks : List Nat} {id : Nat} {ops : Array Oper} {Q : Exit → St → Prop} {st : St} (A is : List Nat) (hm : P.follows .mixedOrders = true) (ho : orderOk P ops A is = true)
    (h : vidx P X.n ops is st fun s => Q .normal (norm ks s)) : AWP P X (.region id ops true) Q st := by
  simp only [orderOk, Bool.and_eq_true, decide_eq_true_eq] at ho
  obtain ⟨⟨⟨⟨⟨⟨h1, h2⟩, h3⟩, h7⟩, h4⟩, h5⟩, h6⟩ := ho
  have hlt : ∀ k ∈ is, k < ops.size := fun k hk => by simpa using List.all_eq_true.1 h2 k hk
  intro _ C a w hc
  refine wpIn_region_any hm ?_
  have hc' : Conc X st C a { w with drawn := w.drawn + 1 } := hc.same rfl rfl rfl rfl
  refine VAny_sound (K := fun s => Q .normal (norm ks s)) (fun st' C' a' w' hq hc'' => ?_) _ _ st ?_ C a _ hc'
  · obtain ⟨C2, h2⟩ := hc''.norm ks
    exact ⟨_, C2, hq, h2⟩
  · refine any_of_order h4 (fun k o hko d hd => ?_) _ is _ st h1 (by simp) h3 (fun k hk => ?_) hlt h5 (fun k o hko hl => ?_) h
    · have hk : k < ops.size := (Array.getElem?_eq_some_iff.1 hko).1
      have := List.all_eq_true.1 h6 k (List.mem_range.2 hk)
      rw [hko] at this
      have := List.all_eq_true.1 this d hd
      simpa using this
    · have hall : ∀ k, k < ops.size → k ∈ is := by
        intro k hk
        simpa using List.all_eq_true.1 h7 k (List.mem_range.2 hk)
      simp [hall k hk, Array.getD_eq_getD_getElem?, hk]
    · have hk : k < ops.size := (Array.getElem?_eq_some_iff.1 hko).1
      simp [Array.getD_eq_getD_getElem?, hk] at hl
end Go.VS
