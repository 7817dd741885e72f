/- Part of a framework that states what Go functions answer on values as data; it holds for every program of the model. -/
import Derived.Test.YtedjcbdhafmjiaaVsAny2
namespace Go.VS
set_option linter.unusedVariables false
set_option linter.unusedSimpArgs false
set_option linter.unusedSectionVars false
open Go
variable {P : Program}

theorem need_eq {α : Type} {c : Prop} [Decidable c] {x : Option α} (h : c) : need c x = x := if_pos h

theorem put_put {st : St} {d e : Nat} {u v : AV} (h : e ≠ d) : (st.put d v).put e u = (st.put e u).put d v := by
  unfold St.put
  congr 1
  funext t
  simp only [upd]
  by_cases h1 : t = e <;> by_cases h2 : t = d <;> simp_all

theorem put_putO {st : St} {d : Nat} {e : Option Nat} {u v : AV} (h : e ≠ some d) : (st.put d v).putO e u = (st.putO e u).put d v := by
  cases e with
  | none => rfl
  | some e => exact put_put (fun x => h (by rw [x]))

theorem ev_put {st : St} {d : Nat} {v : AV} {T : TypeId} {x : Operand} (h : x ≠ .tmp d) : (st.put d v).ev P T x = st.ev P T x := by
  cases x with
  | tmp t => exact upd_ne _ _ (fun e => h (by rw [e]))
  | _ => rfl

theorem freezeL_put : ∀ (gs : List Stamp) (st : St) (d : Nat) (v : AV), (st.put d v).freezeL gs = (st.freezeL gs).put d v
  | [], _, _, _ => rfl
  | g :: gs, st, d, v => freezeL_put gs ({ st with frz := updS st.frz g true } : St) d v

theorem mkNews_put : ∀ (ks : List Nat) (st : St) (d : Nat) (v : AV), (st.put d v).mkNews ks = (st.mkNews ks).put d v
  | [], _, _, _ => rfl
  | k :: ks, st, d, v => mkNews_put ks (st.mkNew k) d v

theorem fillElems_put {st : St} {d : Nat} {v : AV} {sz : Nat} : ∀ (parts : List (Nat × AV)) (l : List AV), fillElems (st.put d v) sz l parts = fillElems st sz l parts
  | [], _ => rfl
  | (i, u) :: r, l => by
    simp only [fillElems]
    rw [fillElems_put r]
    rfl

section
variable {st : St} {d : Nat} {v : AV} {o : Oper} (ha : ∀ x ∈ o.op.operands.toList, x ≠ .tmp d)
include ha

theorem storeBox_put : storeBox P (st.put d v) o = storeBox P st o := by
  unfold storeBox
  split
  · rename_i T a x ho
    rw [ho] at ha
    rw [ev_put (ha a (by simp [Op.operands])), ev_put (ha x (by simp [Op.operands]))]
    rfl
  · rfl

omit ha in
theorem evArgs_put : ∀ (xs : List Operand) (ts : List TypeId), (∀ x ∈ xs, x ≠ .tmp d) → evArgs P (st.put d v) xs ts = evArgs P st xs ts
  | [], _, _ => rfl
  | x :: xs, t :: ts, h => by simp only [evArgs]; rw [ev_put (h x (by simp)), evArgs_put xs ts (fun y hy => h y (by simp [hy]))]
  | x :: xs, [], h => by simp only [evArgs]; rw [ev_put (h x (by simp)), evArgs_put xs [] (fun y hy => h y (by simp [hy]))]

theorem calls_put : calls P (st.put d v) o = calls P st o := by
  unfold calls
  split
  · rename_i c ho
    rw [ho] at ha
    split
    · rename_i x hx
      rw [ev_put (ha x (by simp [Op.operands, Call.operands, hx])), evArgs_put _ _ (fun y hy => ha y (by simp [Op.operands, Call.operands]; exact .inr (by simpa using hy)))]
    · rfl
  · rfl

theorem appOp_put (hne : o.dst ≠ some d) {s : St} (h : appOp P st o = some s) : appOp P (st.put d v) o = some (s.put d v) := by
  unfold appOp at h ⊢
  split at h
  · rename_i c e ho hd
    rw [ho] at ha
    have hed : e ≠ d := fun x => hne (by rw [hd, x])
    split at h
    · rename_i s0 x0 ts tx hcal hargs htys
      have h1 : ∀ y ∈ c.args.toList, y ≠ .tmp d := fun y hy => ha y (by simp [Op.operands, Call.operands]; exact .inr (by simpa using hy))
      rw [hargs] at h1
      split at h
      · rename_i hE
        rw [ev_put (h1 s0 (by simp)), ev_put (h1 x0 (by simp))]
        split at h
        · rename_i hs
          obtain ⟨l', h2, h⟩ := Option.bind_eq_some_iff.1 h
          obtain ⟨h3, h⟩ := need_some h
          have h2' : srcAll P (st.put d v) tx _ (st.ev P tx x0) = some l' := h2
          rw [h2', Option.bind_some]
          split at h <;> obtain ⟨h4, h⟩ := need_some h <;> cases h
          · refine (need_eq h3).trans ((need_eq h4).trans ?_)
            congr 1
            exact put_put (st := st.mkNew e) hed
          · refine (need_eq h3).trans ((need_eq h4).trans ?_)
            congr 1
            exact put_put (st := st.eat _ e) hed
        · cases h
      · cases h
    · cases h
  · cases h

theorem sliceOp_put (hne : o.dst ≠ some d) {s : St} (h : sliceOp P st o = some s) : sliceOp P (st.put d v) o = some (s.put d v) := by
  unfold sliceOp at h ⊢
  split at h
  · rename_i T k parts e ho hd
    rw [ho] at ha
    have hed : e ≠ d := fun x => hne (by rw [hd, x])
    split at h
    · obtain ⟨z0, h1, h⟩ := Option.bind_eq_some_iff.1 h
      obtain ⟨r, h2, h⟩ := Option.bind_eq_some_iff.1 h
      obtain ⟨h3, h⟩ := need_some h
      cases h
      have e1 : ∀ T, (parts.toList.map fun p => (p.1, (st.put d v).ev P T p.2)) = parts.toList.map fun p => (p.1, st.ev P T p.2) := fun T =>
        List.map_congr_left fun p hp => by rw [ev_put (ha p.2 (by simp [Op.operands]; exact ⟨p.1, by simpa using hp⟩))]
      rw [h1, Option.bind_some, e1, fillElems_put, h2, Option.bind_some, freezeL_put]
      refine (need_eq h3).trans ?_
      congr 1
      exact put_put (st := (st.freezeL r.2).mkNew e) hed
    · cases h
  · rename_i T len cap e ho hd
    rw [ho] at ha
    have hed : e ≠ d := fun x => hne (by rw [hd, x])
    split at h
    · obtain ⟨z0, h1, h⟩ := Option.bind_eq_some_iff.1 h
      obtain ⟨l, h2, h⟩ := Option.bind_eq_some_iff.1 h
      obtain ⟨c, h3, h⟩ := Option.bind_eq_some_iff.1 h
      obtain ⟨h4, h⟩ := need_some h
      cases h
      rw [h1, Option.bind_some, ev_put (ha len (by simp [Op.operands])), h2, Option.bind_some, ev_put (ha cap (by simp [Op.operands])), h3, Option.bind_some]
      refine (need_eq h4).trans ?_
      congr 1
      exact put_put (st := st.mkNew e) hed
    · cases h
  · rename_i S T x e ho hd
    rw [ho] at ha
    have hed : e ≠ d := fun x => hne (by rw [hd, x])
    split at h
    · rw [ev_put (ha x (by simp [Op.operands]))]
      split at h
      · obtain ⟨h4, h⟩ := need_some h
        cases h
        refine (need_eq h4).trans ?_
        congr 1
        exact put_put (st := st.mkNew e) hed
      · cases h
    · cases h
  · cases h

theorem convOp_put (hne : o.dst ≠ some d) {s : St} (h : convOp P st o = some s) : convOp P (st.put d v) o = some (s.put d v) := by
  unfold convOp at h ⊢
  split at h
  · rename_i S T x ho
    have ha' := ha
    rw [ho] at ha'
    rw [ev_put (ha' x (by simp [Op.operands]))]
    split at h
    · exact sliceOp_put ha hne h
    · unfold markOp at h ⊢
      rw [ho] at h ⊢
      simp only at h ⊢
      rw [ev_put (ha' x (by simp [Op.operands]))]
      split at h
      · obtain ⟨h4, h⟩ := need_some h
        cases h
        refine (need_eq h4).trans ?_
        rw [put_putO hne]
      · cases h
  · cases h

end

theorem callSt_put {st s : St} {d : Nat} {v r : AV} {e : Option Nat} {as : List AV} (hne : e ≠ some d) (h : callSt st e as r = some s) : callSt (st.put d v) e as r = some (s.put d v) := by
  unfold callSt at h ⊢
  split at h
  · cases h
    rename_i hr
    rw [if_pos hr, put_putO hne]
  · rename_i hr
    rw [if_neg hr]
    split at h
    · simp only at h ⊢
      obtain ⟨h1, h⟩ := need_some h
      cases h
      rw [freezeL_put, mkNews_put]
      refine (need_eq h1).trans ?_
      congr 1
      exact put_put (fun x => hne (by rw [x]))
    · cases h

theorem vstep_put {n : Nat} {st : St} {d : Nat} {v : AV} {o : Oper} (ha : ∀ x ∈ o.op.operands.toList, x ≠ .tmp d) (hne : o.dst ≠ some d) (hb : isBox o = false) (hs : isStore o = false) :
    (∀ s, vstep P n st o = some (.inl s) → vstep P n (st.put d v) o = some (.inl (s.put d v))) ∧ (∀ fa, vstep P n st o = some (.inr fa) → vstep P n (st.put d v) o = some (.inr fa)) := by
  have hpv1 : ∀ u, pv P st o = some u → pv P (st.put d v) o = some u := fun u hu => pv_mono (st := st.put d v) (st' := st) (fun g hg => hg) (fun T x hx => ev_put (ha x hx)) (fun _ => rfl) hu
  have hpv : ∀ s, need (St.fits n o.dst = true) ((pv P st o).bind fun v => some (.inl (st.putO o.dst v))) = some (Sum.inl (β := FuncId × List AV) s) →
      need (St.fits n o.dst = true) ((pv P (st.put d v) o).bind fun u => some (.inl ((st.put d v).putO o.dst u))) = some (Sum.inl (β := FuncId × List AV) (s.put d v)) := by
    intro s h
    obtain ⟨h1, h2⟩ := need_some h
    obtain ⟨u, h3, h4⟩ := Option.bind_eq_some_iff.1 h2
    cases h4
    rw [need, if_pos h1, hpv1 u h3, Option.bind_some, put_putO hne]
  have hsl : ∀ s, need (St.fits n o.dst = true) ((sliceOp P st o).bind fun s => some (.inl s)) = some (Sum.inl (β := FuncId × List AV) s) →
      need (St.fits n o.dst = true) ((sliceOp P (st.put d v) o).bind fun s => some (.inl s)) = some (Sum.inl (β := FuncId × List AV) (s.put d v)) := by
    intro s h
    obtain ⟨h1, h2⟩ := need_some h
    obtain ⟨u, h3, h4⟩ := Option.bind_eq_some_iff.1 h2
    cases h4
    rw [need, if_pos h1, sliceOp_put ha hne h3, Option.bind_some]
  have hno : ∀ fa : FuncId × List AV, need (St.fits n o.dst = true) ((pv P st o).bind fun v => some (.inl (st.putO o.dst v))) = some (Sum.inr (α := St) fa) → False := by
    intro s h
    obtain ⟨h1, h2⟩ := need_some h
    obtain ⟨u, h3, h4⟩ := Option.bind_eq_some_iff.1 h2
    cases h4
  have hno2 : ∀ fa : FuncId × List AV, need (St.fits n o.dst = true) ((sliceOp P st o).bind fun s => some (.inl s)) = some (Sum.inr (α := St) fa) → False := by
    intro s h
    obtain ⟨h1, h2⟩ := need_some h
    obtain ⟨u, h3, h4⟩ := Option.bind_eq_some_iff.1 h2
    cases h4
  unfold vstep
  split
  · rename_i ho; simp [isBox, ho] at hb
  · rename_i ho; simp [isBox, ho] at hb
  · rename_i ho; simp [isStore, ho] at hs
  · exact ⟨hsl, fun fa h => (hno2 fa h).elim⟩
  · exact ⟨hsl, fun fa h => (hno2 fa h).elim⟩
  · rename_i S T x ho
    refine ⟨fun s h => ?_, fun fa h => ?_⟩
    · obtain ⟨h1, h2⟩ := need_some h
      rw [need, if_pos h1]
      split at h2
      · rename_i u hu
        cases h2
        rw [hpv1 u hu]
        simp only
        rw [put_putO hne]
      · rename_i hu
        obtain ⟨u, h3, h4⟩ := Option.bind_eq_some_iff.1 h2
        cases h4
        have hu' : pv P (st.put d v) o = none := by
          cases e : pv P (st.put d v) o with
          | none => rfl
          | some u' =>
            have := pv_mono (st := st) (st' := st.put d v) (fun g hg => hg) (fun T x hx => (ev_put (ha x hx)).symm) (fun _ => rfl) e
            rw [hu] at this; cases this
        rw [hu']
        simp only
        rw [convOp_put ha hne h3]; rfl
    · obtain ⟨h1, h2⟩ := need_some h
      split at h2
      · cases h2
      · obtain ⟨u, h3, h4⟩ := Option.bind_eq_some_iff.1 h2
        cases h4
  · split
    · refine ⟨fun s h => ?_, fun fa h => ?_⟩
      · obtain ⟨h1, h2⟩ := need_some h
        obtain ⟨u, h3, h4⟩ := Option.bind_eq_some_iff.1 h2
        cases h4
        rw [need, if_pos h1, appOp_put ha hne h3]; rfl
      · obtain ⟨h1, h2⟩ := need_some h
        obtain ⟨u, h3, h4⟩ := Option.bind_eq_some_iff.1 h2
        cases h4
    · refine ⟨fun s h => ?_, fun fa h => ?_⟩
      · obtain ⟨fa, h1, h2⟩ := Option.bind_eq_some_iff.1 h
        obtain ⟨_, h3⟩ := need_some h2
        cases h3
      · obtain ⟨fa', h1, h2⟩ := Option.bind_eq_some_iff.1 h
        obtain ⟨h3, h4⟩ := need_some h2
        cases h4
        rw [calls_put ha, h1, Option.bind_some, need]
        exact if_pos h3
    · exact ⟨hpv, fun fa h => (hno fa h).elim⟩
  · exact ⟨hpv, fun fa h => (hno fa h).elim⟩

theorem vop_put {n : Nat} {st : St} {d : Nat} {v : AV} {o : Oper} (ha : ∀ x ∈ o.op.operands.toList, x ≠ .tmp d) (hne : o.dst ≠ some d) (hb : isBox o = false) (hs : isStore o = false) {K K' : St → Prop}
    (hk : ∀ s, K s → K' (s.put d v)) (h : vop P n st o K) : vop P n (st.put d v) o K' := by
  obtain ⟨h1, h2⟩ := vstep_put (P := P) (n := n) (st := st) (v := v) ha hne hb hs
  unfold vop at h ⊢
  split at h
  · rename_i s e
    rw [h1 s e]
    exact hk s h
  · rename_i fa e
    rw [h2 fa e]
    obtain ⟨r, h3, h4⟩ := h
    refine ⟨r, h3, ?_⟩
    split at h4
    · rename_i s hs
      rw [callSt_put hne hs]
      exact hk s h4
    · exact h4.elim
  · exact h.elim
end Go.VS
