/- Part of a framework that states what Go functions answer on values as data; it holds for every program of the model. -/
import Derived.Test.YtfemncfhiihckaaDoorVsSimp
import Derived.Test.YtfemncfhiihckaaDoorVsChunk
namespace Go.VS
set_option linter.unusedVariables false
set_option linter.unusedSimpArgs false
set_option linter.unusedSectionVars false
open Go
variable {P : Program}
theorem Conc.other {X : Ent} {st : St} {C : Ctx} {a : Act} {w w' : World} (hc : Conc X st C a w) (hz : w.heap.size ≤ w'.heap.size)
    (hk : ∀ b, b < w.heap.size → Touch st.frz C b ∨ C.Sh b ∨ C.fo b ∨ ¬ X.mine b → w'.heap[b]? = w.heap[b]?) (ho : w'.os = w.os) (ht : w'.tape = w.tape) (hu : w'.output = w.output) : Conc X st C a w' := by
  have m := hc.mem
  have t : C.To w w' C := ⟨fun b hb => ⟨hb, hk b (m.shIn b hb) (.inr (.inl hb))⟩, fun _ _ hb => hb, fun g => .inr (.inr ⟨rfl, fun b base hb => hk b (m.ownIn g b base hb) (by
    cases hf : st.frz g with
    | true => exact .inr (.inl (m.ownFrz g b base hb hf))
    | false => exact .inl (.inl ⟨g, base, hb, hf⟩))⟩)⟩
  refine hc.to t (fun _ _ hb => hb) (fun id b hb => hk b (m.boxIn id b hb) (.inl (.inr ⟨id, hb⟩))) ?_ hc.cons hc.made
    (hc.frg.go (.same fun a u hr => Rep.to t a u hr) rfl (fun _ hb => .inl hb) (fun _ hb => .inl hb) (fun b hb h => hk b hb (.inr (.inr h))) hz ho ht hu)
  exact { shIn := fun b hb => Nat.lt_of_lt_of_le (m.shIn b hb) hz, shFrom := m.shFrom, shOld := m.shOld, ownIn := fun g b base hb => Nat.lt_of_lt_of_le (m.ownIn g b base hb) hz, ownOne := m.ownOne, ownBox := m.ownBox,
          ownSh := m.ownSh, ownFrz := m.ownFrz, ownMine := m.ownMine, boxIn := fun id b hb => Nat.lt_of_lt_of_le (m.boxIn id b hb) hz, boxOne := m.boxOne, boxSh := m.boxSh, boxMine := m.boxMine,
          kept := fun b h1 h2 => by
            rw [hk b (Nat.lt_of_lt_of_le h1 m.size) (.inr (.inr (.inr fun hm => hm.elim (fun h => by omega) h2)))]
            exact m.kept b h1 h2
          size := Nat.le_trans m.size hz, os := ho.trans m.os, tape := ht.trans m.tape, output := hu.trans m.output, inB := m.inB }
theorem Conc.dropBoxes {X : Ent} {a : Act} {w : World} : ∀ (ds : List Nat) {st : St} {C : Ctx}, Conc X st C a w → ∃ C', Conc X (VS.dropBoxes ds st) C' a w
  | [], _, C, h => ⟨C, h⟩
  | d :: ds, st, C, h => by
    simp only [VS.dropBoxes]
    split
    · rename_i hd
      exact Conc.dropBoxes ds (h.dropBox d hd)
    · exact Conc.dropBoxes ds h
theorem Conc.slim {X : Ent} {st : St} {C : Ctx} {a : Act} {w : World} (hc : Conc X st C a w) (ks ds : List Nat) : ∃ C', Conc X (VS.slim ks ds st) C' a w := by
  obtain ⟨C1, h1⟩ := hc.dropBoxes ds
  exact h1.norm ks
/-- To begin anew: what lies here is what there was. -/
def Ent.re (X : Ent) (ro : Option Nat) (w : World) (C : Ctx) (own0 : Nat → Prop) (ht : tblOk w C.Sh) (hs : ∀ b, C.Sh b → b < w.heap.size ∧ ¬ own0 b) : Ent :=
  { w0 := w, Sh0 := C.Sh, own0 := own0, n := X.n, inB := fun id => if 1000000 ≤ id then C.box id else none,
    inBig := fun id b h => by
      split at h
      · assumption
      · cases h
    round := ro, it := ro.isSome, tab := ht, sh0 := hs }
theorem MemOk.re {X : Ent} {frz : Stamp → Bool} {C : Ctx} {w : World} (m : MemOk X frz C w) {own0 : Nat → Prop} (ho : ∀ b, Touch frz C b → own0 b) {ro : Option Nat} {ht : tblOk w C.Sh} {hs : ∀ b, C.Sh b → b < w.heap.size ∧ ¬ own0 b} :
    MemOk (X.re ro w C own0 ht hs) frz C w :=
  { shIn := m.shIn, shFrom := fun _ hb => .inl hb, shOld := fun _ hb => hb, ownIn := m.ownIn, ownOne := m.ownOne, ownBox := m.ownBox, ownSh := m.ownSh, ownFrz := m.ownFrz,
    ownMine := fun g b base h hf => .inr (ho b (.inl ⟨g, base, h, hf⟩)), boxIn := m.boxIn, boxOne := m.boxOne, boxSh := m.boxSh, boxMine := fun id b h => .inr (ho b (.inr ⟨id, h⟩)),
    kept := fun _ _ _ => rfl, size := Nat.le_refl _, os := rfl, tape := rfl, output := rfl,
    inB := fun id b h => by
      replace h : (if 1000000 ≤ id then C.box id else none) = some b := h
      split at h
      · exact h
      · cases h }
theorem MemOk.unre {X : Ent} {frz : Stamp → Bool} {C : Ctx} {w : World} (m : MemOk X frz C w) {own0 : Nat → Prop} {ro : Option Nat} {ht : tblOk w C.Sh} {hs : ∀ b, C.Sh b → b < w.heap.size ∧ ¬ own0 b} (ho : ∀ b, own0 b → X.mine b)
    {frz' : Stamp → Bool} {C' : Ctx} {w' : World} (m' : MemOk (X.re ro w C own0 ht hs) frz' C' w') : MemOk X frz' C' w' := by
  have hmine : ∀ b, (X.re ro w C own0 ht hs).mine b → X.mine b := fun b hb => hb.elim (fun h => .inl (Nat.le_trans m.size h)) (ho b)
  exact { shIn := m'.shIn, shFrom := fun b hb => (m'.shFrom b hb).elim (m.shFrom b) fun h => .inr (hmine b h), shOld := fun b hb => m'.shOld b (m.shOld b hb), ownIn := m'.ownIn, ownOne := m'.ownOne, ownBox := m'.ownBox, ownSh := m'.ownSh,
          ownFrz := m'.ownFrz, ownMine := fun g b base h hf => hmine b (m'.ownMine g b base h hf), boxIn := m'.boxIn, boxOne := m'.boxOne, boxSh := m'.boxSh, boxMine := fun id b h => hmine b (m'.boxMine id b h),
          kept := fun b h1 h2 => by
            have hn : ¬ own0 b := fun h => (ho b h).elim (fun h => by omega) h2
            rw [m'.kept b (Nat.lt_of_lt_of_le h1 m.size) hn]
            exact m.kept b h1 h2
          size := Nat.le_trans m.size m'.size, os := m'.os.trans m.os, tape := m'.tape.trans m.tape, output := m'.output.trans m.output,
          inB := fun id b h => by
            refine m'.inB id b ?_
            show (if 1000000 ≤ id then C.box id else none) = some b
            rw [if_pos (X.inBig id b h)]
            exact m.inB id b h }
def plainS : AV → Bool
  | .ghost .. => false
  | .itp .. => false
  | .hid _ => false
  | _ => true
theorem frg_plain {X : Ent} {v : AV} {frz : Stamp → Bool} {C : Ctx} {w : World} (hd : X.dm = false) (hp : plainS v = true) : Frg X v frz { C with fo := fun _ => False } [] w where
  dm h := by rw [hd] at h; cases h
  marks _ := ⟨(by cases v <;> first | rfl | cases hp), [], rfl, fun _ => rfl, List.nodup_nil, fun r hr => (by cases hr)⟩
  gh := by
    unfold FG
    split
    · cases hp
    · cases hp
    · trivial
  fin _ hb := hb.elim
  out _ _ hb := hb
/-- The same under another heading, with other parts of an activation that nobody looks at. -/
theorem Conc.head {X X' : Ent} {st : St} {C : Ctx} {a a' : Act} {w : World} (hc : Conc X st C a w) (hn : X'.n = X.n) (hm : MemOk X' st.frz C w) (hd : X'.dm = false) (hp : plainS (st.s X.n) = true) (ha : a'.tmps.size = X.n)
    (hsl : ∀ t, Rep w C (st.s t) (a'.tmps.getD t undef)) (hds : a'.defers = []) : Conc X' st { C with fo := fun _ => False } a' w where
  n := by rw [ha, hn]
  slots t := Rep.to (.fo _) _ _ (hsl t)
  frg := by rw [hn, hds]; exact frg_plain hd hp
  boxes id cs hid := (hc.boxes id cs hid).fo _
  boxSome := hc.boxSome
  mem := hm.fo _
  cons := hc.cons
  made := hc.made
  tg := hc.tg
  tgInj := hc.tgInj
  tgMade := hc.tgMade
mutual
/-- Nothing owned; no variable of these. -/
def stab (ids : List Nat) : AV → Bool
  | .sl (some _) _ _ _ => false
  | .eptr .. => false
  | .ptr id _ => !hasN ids id
  | .bsl id .. => !hasN ids id
  | .agg cs => stabL ids cs
  | .tup cs => stabL ids cs
  | .fn _ cs => stabL ids cs
  | .ghost .. => false
  | .hid _ => false
  | .itp .. => false
  | _ => true
def stabL (ids : List Nat) : List AV → Bool
  | [] => true
  | c :: cs => stab ids c && stabL ids cs
end
mutual
theorem Rep.stab {w w' : World} {C C' : Ctx} {ids : List Nat} (hsh : ∀ b, C.Sh b → C'.Sh b ∧ w'.heap[b]? = w.heap[b]?) (hbx : ∀ id b, hasN ids id = false → C.box id = some b → C'.box id = some b) :
    ∀ (a : AV) (v : Value), VS.stab ids a = true → Rep w C a v → Rep w' C' a v
  | .undef, _, _, _ => trivial
  | .ghost .., _, _, _ => trivial
  | .hid _, _, _, _ => trivial
  | .int .., _, _, h => h
  | .bool .., _, _, h => h
  | .str .., _, _, h => h
  | .sl none .., v, _, h => RepF.keep hsh _ v h
  | .sl (some _) .., _, hk, _ => by simp [VS.stab] at hk
  | .ptr id off, v, hk, h => by
    obtain ⟨b, h1, h2⟩ := h
    exact ⟨b, hbx id b (by simpa [VS.stab] using hk) h1, h2⟩
  | .nilp, _, _, h => h
  | .eptr .., _, hk, _ => by simp [VS.stab] at hk
  | .agg cs, v, hk, h => by
    obtain ⟨vs, h1, h2⟩ := h
    exact ⟨vs, h1, RepS.stab hsh hbx cs vs hk h2⟩
  | .tup cs, v, hk, h => by
    obtain ⟨vs, h1, h2⟩ := h
    exact ⟨vs, h1, RepSU.stab hsh hbx cs vs hk h2⟩
  | .fn f cs, v, hk, h => by
    obtain ⟨vs, h1, h2⟩ := h
    exact ⟨vs, h1, RepS.stab hsh hbx cs vs hk h2⟩
  | .nilf, _, _, h => h
  | .yl _, _, _, h => h
  | .itp .., _, _, h => h
  | .bsl id off len cap, v, hk, h => by
    obtain ⟨b, h1, h2⟩ := h
    exact ⟨b, hbx id b (by simpa [VS.stab] using hk) h1, h2⟩
theorem RepS.stab {w w' : World} {C C' : Ctx} {ids : List Nat} (hsh : ∀ b, C.Sh b → C'.Sh b ∧ w'.heap[b]? = w.heap[b]?) (hbx : ∀ id b, hasN ids id = false → C.box id = some b → C'.box id = some b) :
    ∀ (l : List AV) (vs : List Value), stabL ids l = true → RepS w C l vs → RepS w' C' l vs
  | [], _, _, h => h
  | c :: cs, _, hk, h => by
    obtain ⟨v, r, h1, h0, h2, h3⟩ := h
    simp only [stabL, Bool.and_eq_true] at hk
    exact ⟨v, r, h1, h0, Rep.stab hsh hbx c v hk.1 h2, RepS.stab hsh hbx cs r hk.2 h3⟩
theorem RepSU.stab {w w' : World} {C C' : Ctx} {ids : List Nat} (hsh : ∀ b, C.Sh b → C'.Sh b ∧ w'.heap[b]? = w.heap[b]?) (hbx : ∀ id b, hasN ids id = false → C.box id = some b → C'.box id = some b) :
    ∀ (l : List AV) (vs : List Value), stabL ids l = true → RepSU w C l vs → RepSU w' C' l vs
  | [], _, _, h => h
  | c :: cs, _, hk, h => by
    obtain ⟨v, r, h1, h2, h3⟩ := h
    simp only [stabL, Bool.and_eq_true] at hk
    exact ⟨v, r, h1, Rep.stab hsh hbx c v hk.1 h2, RepSU.stab hsh hbx cs r hk.2 h3⟩
end
mutual
/-- No variable of these; owned slices may be there. -/
def noId (ids : List Nat) : AV → Bool
  | .ptr id _ => !hasN ids id
  | .bsl id .. => !hasN ids id
  | .agg cs => noIdL ids cs
  | .tup cs => noIdL ids cs
  | .fn _ cs => noIdL ids cs
  | _ => true
def noIdL (ids : List Nat) : List AV → Bool
  | [] => true
  | c :: cs => noId ids c && noIdL ids cs
end
mutual
theorem Rep.noId {w : World} {C C' : Ctx} {ids : List Nat} (hsh : C'.Sh = C.Sh) (hown : C'.own = C.own) (hbx : ∀ id b, hasN ids id = false → C.box id = some b → C'.box id = some b) :
    ∀ (a : AV) (v : Value), VS.noId ids a = true → Rep w C a v → Rep w C' a v
  | .undef, _, _, _ => trivial
  | .ghost .., _, _, _ => trivial
  | .hid _, _, _, _ => trivial
  | .int .., _, _, h => h
  | .bool .., _, _, h => h
  | .str .., _, _, h => h
  | .sl none .., v, _, h => by simp only [Rep] at h ⊢; rw [hsh]; exact h
  | .sl (some (g, eo)) .., v, _, h => by
    simp only [Rep] at h ⊢
    rw [hsh, hown]; exact h
  | .ptr id off, v, hk, h => by
    obtain ⟨b, h1, h2⟩ := h
    exact ⟨b, hbx id b (by simpa [VS.noId] using hk) h1, h2⟩
  | .nilp, _, _, h => h
  | .eptr none .., _, _, h => by simp only [Rep] at h ⊢; rw [hsh]; exact h
  | .eptr (some (g, eo)) .., _, _, h => by
    simp only [Rep] at h ⊢
    rw [hsh, hown]; exact h
  | .agg cs, v, hk, h => by
    obtain ⟨vs, h1, h2⟩ := h
    exact ⟨vs, h1, RepS.noId hsh hown hbx cs vs hk h2⟩
  | .tup cs, v, hk, h => by
    obtain ⟨vs, h1, h2⟩ := h
    exact ⟨vs, h1, RepSU.noId hsh hown hbx cs vs hk h2⟩
  | .fn f cs, v, hk, h => by
    obtain ⟨vs, h1, h2⟩ := h
    exact ⟨vs, h1, RepS.noId hsh hown hbx cs vs hk h2⟩
  | .nilf, _, _, h => h
  | .yl _, _, _, h => h
  | .itp .., _, _, h => h
  | .bsl id off len cap, v, hk, h => by
    obtain ⟨b, h1, h2⟩ := h
    exact ⟨b, hbx id b (by simpa [VS.noId] using hk) h1, h2⟩
theorem RepS.noId {w : World} {C C' : Ctx} {ids : List Nat} (hsh : C'.Sh = C.Sh) (hown : C'.own = C.own) (hbx : ∀ id b, hasN ids id = false → C.box id = some b → C'.box id = some b) :
    ∀ (l : List AV) (vs : List Value), noIdL ids l = true → RepS w C l vs → RepS w C' l vs
  | [], _, _, h => h
  | c :: cs, _, hk, h => by
    obtain ⟨v, r, h1, h0, h2, h3⟩ := h
    simp only [noIdL, Bool.and_eq_true] at hk
    exact ⟨v, r, h1, h0, Rep.noId hsh hown hbx c v hk.1 h2, RepS.noId hsh hown hbx cs r hk.2 h3⟩
theorem RepSU.noId {w : World} {C C' : Ctx} {ids : List Nat} (hsh : C'.Sh = C.Sh) (hown : C'.own = C.own) (hbx : ∀ id b, hasN ids id = false → C.box id = some b → C'.box id = some b) :
    ∀ (l : List AV) (vs : List Value), noIdL ids l = true → RepSU w C l vs → RepSU w C' l vs
  | [], _, _, h => h
  | c :: cs, _, hk, h => by
    obtain ⟨v, r, h1, h2, h3⟩ := h
    simp only [noIdL, Bool.and_eq_true] at hk
    exact ⟨v, r, h1, Rep.noId hsh hown hbx c v hk.1 h2, RepSU.noId hsh hown hbx cs r hk.2 h3⟩
end
def Ent.iter (w : World) (C : Ctx) (own0 : Nat → Prop) (n : Nat) (J : Nat → Bool → List AV → List AV → (Nat → Prop) → (Nat → Prop) → World → Prop) (hb : ∀ id b, C.box id = some b → 1000000 ≤ id) (ht : tblOk w C.Sh)
    (hs : ∀ b, C.Sh b → b < w.heap.size ∧ ¬ own0 b) : Ent := { Ent.lent w C own0 n hb ht hs with it := true, J := J }
/-- What an iterator leaves: it has handed on all, or the loop has been ended; and what it leaves in the boxes that were lent. -/
def PostI (w : World) (C : Ctx) (own0 : Nat → Prop) (hb : ∀ id b, C.box id = some b → 1000000 ≤ id) (ht : tblOk w C.Sh) (hs : ∀ b, C.Sh b → b < w.heap.size ∧ ¬ own0 b)
    (J : Nat → Bool → List AV → List AV → (Nat → Prop) → (Nat → Prop) → World → Prop) (l : Nat) (bs' : List (List AV)) (e : Ending) (w' : World) : Prop :=
  ∃ v, e = .returned v ∧ ∃ (stop : Bool) (done todo : List AV) (M' S' : Nat → Prop) (C' : Ctx), (stop = false → todo = []) ∧ J l stop done todo M' S' w' ∧ MemOk (Ent.lent w C own0 0 hb ht hs) (fun _ => false) { C' with own := fun _ => .none } w' ∧
    (∀ (i : Nat) (cs : List AV), bs'[i]? = some cs → BoxAt w' C' (1000000 + i) cs) ∧ (∀ id b, C.box id = some b → ¬ M' b ∧ ¬ S' b) ∧ (∀ b, C'.Sh b → ¬ M' b)
/-- A function, called with a loop's yield, with boxes and with what is shared: it hands on these, one by one. -/
def IterB (P : Program) (f : FuncId) (args : List AV) (bs : List (List AV)) (ys : List AV) (bs' : List (List AV)) : Prop :=
  ∀ (w : World) (C : Ctx) (own0 : Nat → Prop) (J : Nat → Bool → List AV → List AV → (Nat → Prop) → (Nat → Prop) → World → Prop) (hb : ∀ id b, C.box id = some b → 1000000 ≤ id) (ht : tblOk w C.Sh)
    (hs : ∀ b, C.Sh b → b < w.heap.size ∧ ¬ own0 b) (vals : List Value) (l : Nat) (M S : Nat → Prop),
    YieldOk P (Ent.iter w C own0 0 J hb ht hs) → MemOk (Ent.lent w C own0 0 hb ht hs) (fun _ => false) C w → (∀ g, C.own g = .none) → (∀ id b, C.box id = some b → id < 1000000 + bs.length) → args.length = vals.length →
    (∀ (i : Nat) (a : AV) (v : Value), args[i]? = some a → vals[i]? = some v → Rep w C a v) → (∀ (i : Nat) (cs : List AV), bs[i]? = some cs → BoxAt w C (1000000 + i) cs) →
    (∀ w', Ext (Ent.lent w C own0 0 hb ht hs).mine M S w w' → J l false [] ys M S w') → (∀ b, M b ∨ S b → b < w.heap.size) → (∀ b, M b → own0 b) → (∀ id b, C.box id = some b → ¬ M b ∧ ¬ S b) → (∀ b, C.Sh b → ¬ M b) →
    Calls P f (Value.func (.yield l) #[] #[] :: vals).toArray w (PostI w C own0 hb ht hs J l bs')
/-- Where an iterator begins. -/
def entryI (n l : Nat) (args : List AV) (bs : List (List AV)) (ys : List AV) : St :=
  { entryB (.yl l :: args) bs with s := upd (entryB (.yl l :: args) bs).s n (.ghost l false [] ys) }
/-- What is left in a box: as it is said, or no word of it. -/
def leaves1 (st : St) (bs' : List (List AV)) : Prop := ∀ (i : Nat) (cs : List AV), bs'[i]? = some cs → ∃ cs0, st.bx (1000000 + i) = some cs0 ∧ (cs = cs0 ∨ cs = cs0.map fun _ => .undef)
def retI (n l : Nat) (bs' : List (List AV)) : Exit → St → Prop :=
  fun e st => (e = .ret ∨ e = .normal) ∧ (∃ stop done todo, st.s n = .ghost l stop done todo ∧ (stop = false → todo = [])) ∧ leaves1 st bs'
theorem IterB.intro {f : FuncId} {fn : Func} {c : Code} {args : List AV} {bs bs' : List (List AV)} {ys : List AV} (hf : P.funcs[f]? = some fn) (hb : fn.body = some c) (hn : args.length + 1 ≤ fn.ntmps) (hrs : fn.results = #[])
    (h : ∀ (X : Ent) (l : Nat), X.n = fn.ntmps → AWP P X c (retI fn.ntmps l bs') (entryI fn.ntmps l args bs ys)) : IterB P f args bs ys bs' := by
  intro w C own0 J hbig ht hs vals l M S hy hm hown hbx hlen hargs hboxes hJ hMS hMo hbM hShM
  let X := Ent.iter w C own0 fn.ntmps J hbig ht hs
  let C0 : Ctx := { C with fo := fun b => M b ∨ S b }
  have hm0 : MemOk X (fun _ => false) C0 w :=
    { shIn := hm.shIn, shFrom := hm.shFrom, shOld := hm.shOld, ownIn := hm.ownIn, ownOne := hm.ownOne, ownBox := hm.ownBox, ownSh := hm.ownSh, ownFrz := hm.ownFrz, ownMine := hm.ownMine,
      boxIn := hm.boxIn, boxOne := hm.boxOne, boxSh := hm.boxSh, boxMine := hm.boxMine, kept := hm.kept, size := hm.size, os := hm.os, tape := hm.tape, output := hm.output, inB := hm.inB }
  have hsz : (Value.func (.yield l) #[] #[] :: vals).toArray.size = vals.length + 1 := by simp
  have hc : Conc X (entryI fn.ntmps l args bs ys) C0 { tmps := (Value.func (.yield l) #[] #[] :: vals).toArray ++ Array.replicate (fn.ntmps - (Value.func (.yield l) #[] #[] :: vals).toArray.size) undef, defers := [] } w := by
    refine { n := ?_, slots := ?_, frg := ?_, boxes := ?_, boxSome := ?_, mem := hm0, cons := fun g => ⟨fun hh => (by cases hh), fun hh => ?_⟩,
             made := fun d hh => absurd (hown _) hh, tg := fun d hh => (by intro x; cases x), tgInj := fun d d' hh _ _ x => (by cases x), tgMade := fun d x => by cases x }
    · simp [X, Ent.iter, Ent.lent]; omega
    · intro t
      by_cases e : t = fn.ntmps
      · subst e
        have : (entryI fn.ntmps l args bs ys).s fn.ntmps = .ghost l false [] ys := upd_same _ _ _
        rw [this]; trivial
      · have : (entryI fn.ntmps l args bs ys).s t = ((.yl l :: args)[t]?).getD .undef := upd_ne _ _ e
        rw [this]
        cases ht : (AV.yl l :: args)[t]? with
        | none => trivial
        | some v =>
          simp only [Option.getD_some]
          have hlt := (List.getElem?_eq_some_iff.1 ht).1
          simp only [List.length_cons] at hlt
          have e2 : ((Value.func (.yield l) #[] #[] :: vals).toArray ++ Array.replicate (fn.ntmps - (Value.func (.yield l) #[] #[] :: vals).toArray.size) undef).getD t undef = (Value.func (.yield l) #[] #[] :: vals)[t]'(by simp; omega) := by
            rw [Array.getD_eq_getD_getElem?, Array.getElem?_append_left (by simp; omega)]
            simp only [List.getElem?_toArray]
            rw [List.getElem?_eq_getElem (by simp; omega), Option.getD_some]
          rw [e2]
          cases t with
          | zero => simp at ht; subst ht; rfl
          | succ t =>
            have hvl : t < vals.length := by omega
            have := hargs t v vals[t] (by simpa using ht) (List.getElem?_eq_getElem hvl)
            exact Rep.to (.fo _) _ _ (by simpa using this)
    · have e : (entryI fn.ntmps l args bs ys).s X.n = .ghost l false [] ys := upd_same _ _ _
      rw [e]
      refine ⟨fun x => (by cases x), fun _ => ⟨rfl, [], rfl, fun _ => rfl, List.nodup_nil, fun r hr => (by cases hr)⟩, ⟨rfl, M, S, hJ, fun b hb => hb, fun b hb => .inr (hMo b hb), hShM⟩, hMS, ?_⟩
      rintro b (⟨g, base, hg, _⟩ | ⟨id, hid⟩) hfo
      · rw [show C0.own g = C.own g from rfl, hown] at hg; cases hg
      · exact hfo.elim (hbM id b hid).1 (hbM id b hid).2
    · intro id cs hid
      replace hid : (if 1000000 ≤ id then bs[id - 1000000]? else none) = some cs := hid
      split at hid
      · rename_i hge
        have := (hboxes _ cs hid).fo fun b => M b ∨ S b
        rwa [show 1000000 + (id - 1000000) = id by omega] at this
      · cases hid
    · intro id b hid
      have h1 := hbig id b hid
      have h2 := hbx id b hid
      show (if 1000000 ≤ id then bs[id - 1000000]? else none).isSome = true
      rw [if_pos h1, List.getElem?_eq_getElem (by omega)]
      rfl
    · rw [show C0.own g = C.own g from rfl, hown] at hh; cases hh
  refine calls_of_conc hf hb rfl rfl (show YieldOk P X from hy) (h X l rfl) hc ?_
  rintro e st' C' a' w' ⟨he, ⟨stop, done, todo, hg, hst⟩, hlv⟩ hc' _
  have hgh := hc'.frg.gh
  have hg' : st'.s X.n = .ghost l stop done todo := hg
  rw [hg'] at hgh
  obtain ⟨_, M', S', j1, j2, j3, j4⟩ := hgh
  have m := hc'.mem
  refine ⟨he, .tuple #[], ?_, _, rfl, stop, done, todo, M', S', C', hst, j1 w' (.refl w'), ?_, fun i cs hi => ?_, fun id b hid => ?_, j4⟩
  · exact results_none hrs _ _ _
  · exact { shIn := m.shIn, shFrom := m.shFrom, shOld := m.shOld, ownIn := fun g b base hh => (by cases hh), ownOne := fun g g' b _ _ hh => (by cases hh), ownBox := fun g b base id hh => (by cases hh), ownSh := fun g b base hh => (by cases hh),
            ownFrz := fun g b base hh => (by cases hh), ownMine := fun g b base hh => (by cases hh), boxIn := m.boxIn, boxOne := m.boxOne, boxSh := m.boxSh, boxMine := m.boxMine, kept := m.kept, size := m.size, os := m.os, tape := m.tape,
            output := m.output, inB := m.inB }
  · obtain ⟨cs0, h1, h2⟩ := hlv i cs hi
    obtain ⟨b, c', e', lo, hi', g1, g2, g3, g4⟩ := hc'.boxes _ _ h1
    refine ⟨b, c', e', lo, hi', g1, g2, g3, ?_⟩
    rcases h2 with rfl | rfl
    · exact g4
    · exact undefs_rep g4
  · have hb2 : C'.box id = some b := m.inB id b hid
    have := hc'.frg.out b (.inr ⟨id, hb2⟩)
    exact ⟨fun x => this (j2 b (.inl x)), fun x => this (j2 b (.inr x))⟩
end Go.VS
namespace Go.VS
set_option linter.unusedVariables false
set_option linter.unusedSimpArgs false
set_option linter.unusedSectionVars false
open Go
variable {P : Program}
/-- A state at rest. -/
def stOf (L : List (Nat × AV)) (B : List (Nat × List AV)) : St := ⟨lk L, lkB B, hasS [], hasS [], hasN [], lkR []⟩
/-- Some slots. -/
def selL (L : List (Nat × AV)) (ks : List Nat) : List (Nat × AV) := ks.map fun k => (k, lk L k)
/-- Variables under great numbers, and none of these. -/
def okKeys (ids : List Nat) (B : List (Nat × List AV)) : Bool := B.all fun p => decide (1000000 ≤ p.1) && !hasN ids p.1
def jumpOf : Exit → Option Code
  | .ret => some .ret
  | .exit id => some (.exit id)
  | .goto t => some (.goto t)
  | _ => none
theorem lk_selL (L : List (Nat × AV)) : ∀ (ks : List Nat) (t : Nat), lk (selL L ks) t = if ks.contains t = true then lk L t else .undef
  | [], t => rfl
  | k :: ks, t => by
    show (if t = k then lk L k else lk (selL L ks) t) = _
    by_cases e : t = k
    · subst e; simp
    · rw [if_neg e, lk_selL L ks t]
      have e' : (t == k) = false := by simpa using e
      simp only [List.contains_cons, e', Bool.false_or]
theorem lkB_mem : ∀ {B : List (Nat × List AV)} {id : Nat} {cs : List AV}, lkB B id = some cs → (id, cs) ∈ B
  | [], _, _, h => by cases h
  | (k, v) :: B, id, cs, h => by
    simp only [lkB] at h
    split at h
    · rename_i e; subst e; cases h; simp
    · exact List.mem_cons_of_mem _ (lkB_mem h)
theorem lkB_append : ∀ (A B : List (Nat × List AV)) (id : Nat), lkB (A ++ B) id = match lkB A id with | some c => some c | none => lkB B id
  | [], B, id => rfl
  | (k, v) :: A, B, id => by
    simp only [List.cons_append, lkB]
    split
    · rfl
    · exact lkB_append A B id
theorem lkB_zip : ∀ (ids : List Nat) (css : List (List AV)), ids.length = css.length → nodupN ids = true → (∀ (i id : Nat) (c : List AV), ids[i]? = some id → css[i]? = some c → lkB (ids.zip css) id = some c) ∧ (∀ id, hasN ids id = false → lkB (ids.zip css) id = none)
  | [], [], _, _ => ⟨fun i id c h => by simp at h, fun _ _ => rfl⟩
  | [], c :: cs, h, _ => by simp at h
  | k :: is, [], h, _ => by simp at h
  | k :: is, c :: cs, h, hn => by
    simp only [nodupN, Bool.and_eq_true, Bool.not_eq_true'] at hn
    obtain ⟨h1, h2⟩ := lkB_zip is cs (by simpa using h) hn.2
    refine ⟨fun i id c' hi hc => ?_, fun id hid => ?_⟩
    · simp only [List.zip_cons_cons, lkB]
      cases i with
      | zero => simp at hi hc; subst hi; subst hc; simp
      | succ i =>
        have hne : id ≠ k := fun e => by
          subst e
          rw [hasN_mem.2 (List.mem_of_getElem? (by simpa using hi))] at hn; cases hn.1
        rw [if_neg hne]
        exact h1 i id c' (by simpa using hi) (by simpa using hc)
    · simp only [hasN] at hid
      split at hid
      · cases hid
      · rename_i e
        simp only [List.zip_cons_cons, lkB]
        rw [if_neg e]
        exact h2 id hid
theorem MemOk.more {X : Ent} {ro : Option Nat} {w : World} {C : Ctx} {own0 own1 : Nat → Prop} {ht : tblOk w C.Sh} {hs : ∀ b, C.Sh b → b < w.heap.size ∧ ¬ own0 b} {hs' : ∀ b, C.Sh b → b < w.heap.size ∧ ¬ own1 b} (h : ∀ b, own0 b → own1 b)
    {frz : Stamp → Bool} {C' : Ctx} {w' : World} (m : MemOk (X.re ro w C own0 ht hs) frz C' w') : MemOk (X.re ro w C own1 ht hs') frz C' w' := by
  have hm : ∀ b, (X.re ro w C own0 ht hs).mine b → (X.re ro w C own1 ht hs').mine b := fun b hb => hb.imp id (h b)
  exact { shIn := m.shIn, shFrom := fun b hb => (m.shFrom b hb).imp id (hm b), shOld := m.shOld, ownIn := m.ownIn, ownOne := m.ownOne, ownBox := m.ownBox, ownSh := m.ownSh, ownFrz := m.ownFrz,
          ownMine := fun g b base h1 h2 => hm b (m.ownMine g b base h1 h2), boxIn := m.boxIn, boxOne := m.boxOne, boxSh := m.boxSh, boxMine := fun id b h1 => hm b (m.boxMine id b h1),
          kept := fun b h1 h2 => m.kept b h1 fun h3 => h2 (h b h3), size := m.size, os := m.os, tape := m.tape, output := m.output, inB := m.inB }
theorem foldl_set_size : ∀ (l : List (Tmp × Value)) (t : Array Value), (l.foldl (fun tmps p => tmps.setIfInBounds p.1 p.2) t).size = t.size
  | [], t => rfl
  | p :: l, t => by rw [List.foldl_cons, foldl_set_size l]; simp
theorem foldl_set_get : ∀ (ps : List Nat) (vs : List Value) (t : Array Value), ps.length = vs.length → nodupN ps = true → (∀ p ∈ ps, p < t.size) →
    (∀ (i k : Nat) (v : Value), ps[i]? = some k → vs[i]? = some v → ((ps.zip vs).foldl (fun tmps p => tmps.setIfInBounds p.1 p.2) t).getD k undef = v) ∧
    (∀ k, hasN ps k = false → ((ps.zip vs).foldl (fun tmps p => tmps.setIfInBounds p.1 p.2) t).getD k undef = t.getD k undef)
  | [], [], t, _, _, _ => ⟨fun i k v h => by simp at h, fun _ _ => rfl⟩
  | [], v :: vs, t, h, _, _ => by simp at h
  | p :: ps, [], t, h, _, _ => by simp at h
  | p :: ps, v :: vs, t, h, hn, hlt => by
    simp only [nodupN, Bool.and_eq_true, Bool.not_eq_true'] at hn
    obtain ⟨h1, h2⟩ := foldl_set_get ps vs (t.setIfInBounds p v) (by simpa using h) hn.2 (fun k hk => by simpa using hlt k (by simp [hk]))
    simp only [List.zip_cons_cons, List.foldl_cons]
    refine ⟨fun i k u hi hu => ?_, fun k hk => ?_⟩
    · cases i with
      | zero =>
        simp at hi hu; subst hi; subst hu
        rw [h2 p hn.1]
        have := hlt p (by simp)
        simp [Array.getD_eq_getD_getElem?, this]
      | succ i => exact h1 i k u (by simpa using hi) (by simpa using hu)
    · simp only [hasN] at hk
      split at hk
      · cases hk
      · rename_i e
        rw [h2 k hk]
        simp only [Array.getD_eq_getD_getElem?, Array.getElem?_setIfInBounds]
        rw [if_neg (fun x => e x.symm)]
theorem lk_zip : ∀ (ps : List Nat) (as : List AV) (L : List (Nat × AV)), ps.length = as.length → nodupN ps = true → (∀ (i k : Nat) (v : AV), ps[i]? = some k → as[i]? = some v → lk (ps.zip as ++ L) k = v) ∧ (∀ k, hasN ps k = false → lk (ps.zip as ++ L) k = lk L k)
  | [], [], L, _, _ => ⟨fun i k v h => by simp at h, fun _ _ => rfl⟩
  | [], v :: vs, L, h, _ => by simp at h
  | p :: ps, [], L, h, _ => by simp at h
  | p :: ps, v :: vs, L, h, hn => by
    simp only [nodupN, Bool.and_eq_true, Bool.not_eq_true'] at hn
    obtain ⟨h1, h2⟩ := lk_zip ps vs L (by simpa using h) hn.2
    refine ⟨fun i k u hi hu => ?_, fun k hk => ?_⟩
    · simp only [List.zip_cons_cons, List.cons_append, lk]
      cases i with
      | zero => simp at hi hu; subst hi; subst hu; simp
      | succ i =>
        have hne : k ≠ p := fun e => by
          subst e
          rw [hasN_mem.2 (List.mem_of_getElem? (by simpa using hi))] at hn; cases hn.1
        rw [if_neg hne]
        exact h1 i k u (by simpa using hi) (by simpa using hu)
    · simp only [hasN] at hk
      split at hk
      · cases hk
      · rename_i e
        simp only [List.zip_cons_cons, List.cons_append, lk]
        rw [if_neg e]
        exact h2 k hk
/-- What a round leaves. -/
def roundQ (ids ds : List Nat) (B : List (Nat × List AV)) (QX : Exit → List (Nat × List AV) → Prop) (e : Exit) (s : St) : Prop :=
  ∃ B', VS.slim [] ds s = stOf [] B' ∧ okKeys ids B' = true ∧ ((e = .normal ∧ B' = B) ∨ ((jumpOf e).isSome = true ∧ QX e B'))
end Go.VS
namespace Go.VS
set_option linter.unusedVariables false
set_option linter.unusedSimpArgs false
set_option linter.unusedSectionVars false
open Go
variable {P : Program}
/-- What the caller of an iterator has meanwhile. -/
structure Park (Xp : Ent) (l : Nat) (rc : Bool → Option Code → Loop) (a0 : Act) (ids : List Nat) (Bf : List AV → List (Nat × List AV)) (QX : Exit → List (Nat × List AV) → Prop) (stop : Bool) (done : List AV) (W : World) (C' : Ctx) (B : List (Nat × List AV)) (e : Exit) : Prop where
  conc : Conc Xp (stOf [] B) C' a0 W
  fo : C'.fo = fun _ => False
  keys : okKeys ids B = true
  recd : W.heap[l]? = some (.loop (rc stop (jumpOf e)))
  ntl : ¬ Touch (hasS []) C' l
  nsl : ¬ C'.Sh l
  go : stop = false → B = Bf done ∧ e = .normal
  ends : stop = true → (jumpOf e).isSome = true ∧ QX e B
def JR (Xp : Ent) (l : Nat) (rc : Bool → Option Code → Loop) (a0 : Act) (ids : List Nat) (ys : List AV) (Bf : List AV → List (Nat × List AV)) (QX : Exit → List (Nat × List AV) → Prop) : Nat → Bool → List AV → List AV → (Nat → Prop) → (Nat → Prop) → World → Prop :=
  fun l' stop done todo M S W => l' = l ∧ done ++ todo = ys ∧ ∃ C' B e, Park Xp l rc a0 ids Bf QX stop done W C' B e ∧ M = (fun b => Touch (hasS []) C' b ∨ b = l) ∧ S = C'.Sh
/-- It stands in worlds that have gone on elsewhere. -/
theorem JR.ext {Xp : Ent} {l : Nat} {rc : Bool → Option Code → Loop} {a0 : Act} {ids : List Nat} {ys : List AV} {Bf : List AV → List (Nat × List AV)} {QX : Exit → List (Nat × List AV) → Prop} {l' : Nat} {stop : Bool} {done todo : List AV} {M S : Nat → Prop} {W W' : World}
    (h : JR Xp l rc a0 ids ys Bf QX l' stop done todo M S W) (hx : Ext Xp.mine M S W W') : JR Xp l rc a0 ids ys Bf QX l' stop done todo M S W' := by
  obtain ⟨h1, h2, C', B, e, hp, rfl, rfl⟩ := h
  have hl : l < W.heap.size := (Array.getElem?_eq_some_iff.1 hp.recd).1
  refine ⟨h1, h2, C', B, e, { hp with conc := hp.conc.other hx.size (fun b hb hc => hx.keep b hb ?_) hx.os hx.tape hx.output, recd := (hx.keep l hl (.inl (.inr rfl))).trans hp.recd }, rfl, rfl⟩
  rcases hc with hc | hc | hc | hc
  · exact .inl (.inl hc)
  · exact .inr (.inl hc)
  · rw [hp.fo] at hc; exact hc.elim
  · exact .inr (.inr hc)
/-- A round of the loop. -/
theorem park_round {Xp : Ent} {l : Nat} {fn : FuncId} {T : Array Value} {ps : Array Tmp} {assign body : Code} {dr : Nat} {rc : Bool → Option Code → Loop}
    (hrc : rc = fun stop jump => { state := if stop = true then .done else .ready, pending := jump, fn, tmps := T, params := ps, assign, body, defers := dr })
    {ids ds ks : List Nat} {ys : List AV} {Bf : List AV → List (Nat × List AV)} {QX : Exit → List (Nat × List AV) → Prop} {L : List (Nat × AV)} {Cp : Ctx}
    (hXp : Xp.round = none ∧ Xp.it = false ∧ Xp.dm = false) (hT : T.size = Xp.n) (hps : nodupN ps.toList = true ∧ (∀ p ∈ ps.toList, p < Xp.n)) (hks : ∀ k ∈ ks, k < Xp.n ∧ stab ids (lk L k) = true)
    (hcp : Cp.Sh = Xp.Sh0) (hbp : ∀ id b, Cp.box id = some b → hasN ids id = false → Xp.inB id = some b) (hsl : ∀ t, Rep Xp.w0 Cp (lk L t) (T.getD t undef)) (hlm : Xp.mine l) (hown0 : ∀ b, Xp.Sh0 b → b ≠ l)
    (round : ∀ done as todo, ys = done ++ .tup as :: todo → okKeys ids (Bf done) = true → ∀ X' : Ent, X'.n = Xp.n → AWP P X' assign (fun e s => e = .normal ∧ plainS (s.s Xp.n) = true ∧ ∀ X'' : Ent, X''.n = Xp.n → AWP P X'' body (roundQ ids ds (Bf (done ++ [.tup as])) QX) s) (stOf (ps.toList.zip as ++ selL L ks) (Bf done)))
    {done todo as : List AV} (hys : done ++ .tup as :: todo = ys) (has : as.length = ps.size) {W : World} {C' : Ctx} {B : List (Nat × List AV)} {e : Exit} (hp : Park Xp l rc { tmps := T, defers := [] } ids Bf QX false done W C' B e)
    {Sh : Nat → Prop} (hSh : ∀ b, Sh b → b < W.heap.size ∧ ¬ (Touch (hasS []) C' b ∨ b = l) ∧ (Xp.Sh0 b ∨ Xp.mine b)) {vals : List Value} (hra : RepArgs W Sh as vals) :
    ∃ tmps, (Instr.yield l vals.toArray).run P W = .ok (.round l fn tmps assign body) W ∧ RoundIn Fence.wide 0 P l fn tmps assign body W fun e W' => ∃ b, e = .returned (.bool b) ∧ ∃ C5 B5 e5,
      Park Xp l rc { tmps := T, defers := [] } ids Bf QX (!b) (done ++ [.tup as]) W' C5 B5 e5 ∧ (∀ k, Touch (hasS []) C5 k → Touch (hasS []) C' k ∨ W.heap.size ≤ k) ∧
      (∀ k, C5.Sh k → C'.Sh k ∨ Sh k ∨ Touch (hasS []) C' k ∨ W.heap.size ≤ k) ∧ W.heap.size ≤ W'.heap.size ∧ (∀ k, k < W.heap.size → ¬ (Touch (hasS []) C' k ∨ k = l) → W'.heap[k]? = W.heap[k]?) ∧ W'.os = W.os ∧ W'.tape = W.tape ∧ W'.output = W.output := by
  obtain ⟨hX1, hX2, hX3⟩ := hXp
  obtain ⟨rfl, rfl⟩ := hp.go rfl
  have hl0 : W.heap[l]? = some (.loop { state := .ready, pending := none, fn, tmps := T, params := ps, assign, body, defers := dr }) := by
    have := hp.recd
    rw [hrc] at this; exact this
  have hlW : l < W.heap.size := (Array.getElem?_eq_some_iff.1 hl0).1
  have hvl : vals.length = ps.size := by rw [← has]; exact hra.1.symm
  have m := hp.conc.mem
  generalize htm : (ps.toList.zip vals).foldl (fun tmps p => tmps.setIfInBounds p.1 p.2) T = tmps
  have hyield : (Instr.yield l vals.toArray).run P W = .ok (.round l fn tmps assign body) W := by
    have := run_yield (P := P) (args := vals.toArray) hl0 (by simpa using hvl)
    rw [this]
    congr 2
    rw [← htm, ← Array.foldl_toList]
    simp
  obtain ⟨g1, g2⟩ := foldl_set_get ps.toList vals T (by simp [hvl]) hps.1 (fun p hpp => by rw [hT]; exact hps.2 p hpp)
  rw [htm] at g1 g2
  have htz : tmps.size = Xp.n := by rw [← htm, foldl_set_size]; exact hT
  refine ⟨tmps, hyield, roundIn_of_wpIn (F := Fence.wide) trivial ?_⟩
  -- the caller's view, what has come taken in
  let C1 : Ctx := { C' with Sh := fun b => C'.Sh b ∨ Sh b }
  have m1 : MemOk Xp (hasS []) C1 W :=
    { shIn := fun b hb => hb.elim (m.shIn b) fun h => (hSh b h).1, shFrom := fun b hb => hb.elim (m.shFrom b) fun h => (hSh b h).2.2, shOld := fun b hb => .inl (m.shOld b hb), ownIn := m.ownIn, ownOne := m.ownOne, ownBox := m.ownBox,
      ownSh := fun g b base hg hf hb => hb.elim (m.ownSh g b base hg hf) fun h => (hSh b h).2.1 (.inl (.inl ⟨g, base, hg, hf⟩)), ownFrz := fun g b base hg hf => (by cases hf), ownMine := m.ownMine, boxIn := m.boxIn, boxOne := m.boxOne,
      boxSh := fun id b hb hs => hs.elim (m.boxSh id b hb) fun h => (hSh b h).2.1 (.inl (.inr ⟨id, hb⟩)), boxMine := m.boxMine, kept := m.kept, size := m.size, os := m.os, tape := m.tape, output := m.output, inB := m.inB }
  have t1 : C'.To W W C1 := ⟨fun b hb => ⟨.inl hb, rfl⟩, fun _ _ hb => hb, fun _ => .inr (.inr ⟨rfl, fun _ _ _ => rfl⟩)⟩
  have hs1 : ∀ b, C1.Sh b → b < W.heap.size ∧ ¬ Touch (hasS []) C1 b := fun b hb => ⟨m1.shIn b hb, fun h => (m1.touch h).2.2 hb⟩
  have hs1' : ∀ b, C1.Sh b → b < W.heap.size ∧ ¬ (Touch (hasS []) C1 b ∨ b = l) := fun b hb => ⟨m1.shIn b hb, fun h => h.elim (hs1 b hb).2 fun e => by
    subst e
    exact hb.elim hp.nsl fun h => (hSh b h).2.1 (.inr rfl)⟩
  let Xr : Ent := Xp.re (some l) W C1 (fun b => Touch (hasS []) C1 b) m1.tab hs1
  have hcr : Conc Xr (stOf (ps.toList.zip as ++ selL L ks) (Bf done)) { C1 with fo := fun _ => False } { tmps := tmps, defers := [] } W := by
    obtain ⟨z1, z2⟩ := lk_zip ps.toList as (selL L ks) (by simp [has]) hps.1
    have hx : lk (ps.toList.zip as ++ selL L ks) Xp.n = .undef := by
      rw [z2 Xp.n (by
        cases e : hasN ps.toList Xp.n with
        | false => rfl
        | true => exact absurd (hps.2 _ (hasN_mem.1 e)) (Nat.lt_irrefl _)), lk_selL]
      split
      · rename_i e
        exact absurd (hks Xp.n (by simpa using e)).1 (Nat.lt_irrefl _)
      · rfl
    refine { n := htz, slots := fun t => ?_, frg := ?_, boxes := fun id cs hid => ?_, boxSome := hp.conc.boxSome, mem := (m1.re (fun b h => h)).fo _, cons := hp.conc.cons, made := hp.conc.made, tg := hp.conc.tg, tgInj := hp.conc.tgInj, tgMade := hp.conc.tgMade }
    · refine Rep.to (.fo _) _ _ ?_
      show Rep W C1 (lk (ps.toList.zip as ++ selL L ks) t) (tmps.getD t undef)
      cases e : hasN ps.toList t with
      | true =>
        have hp1 := posN_get e
        have hlt := (List.getElem?_eq_some_iff.1 hp1).1
        have hla : posN ps.toList t < as.length := by rw [has]; simpa using hlt
        have hlv : posN ps.toList t < vals.length := by rw [hvl]; simpa using hlt
        rw [z1 _ t _ hp1 (List.getElem?_eq_getElem hla), g1 _ t _ hp1 (List.getElem?_eq_getElem hlv)]
        have := hra.2 _ _ _ (List.getElem?_eq_getElem hla) (List.getElem?_eq_getElem hlv)
        exact Rep.of_shared _ _ (RepF.keep (fun b hb => ⟨.inr hb, rfl⟩) _ _ this)
      | false =>
        rw [z2 t e, g2 t e, lk_selL]
        split
        · rename_i hk
          obtain ⟨_, hst⟩ := hks t (by simpa using hk)
          refine Rep.stab (w := Xp.w0) (C := Cp) (w' := W) (C' := C1) (ids := ids) (fun b hb => ?_) (fun id b hn hb => m.inB id b (hbp id b hb hn)) _ _ hst (hsl t)
          rw [hcp] at hb
          exact ⟨.inl (m.shOld b hb), m.kept b (Xp.sh0 b hb).1 (Xp.sh0 b hb).2⟩
        · trivial
    · show Frg Xr (lk (ps.toList.zip as ++ selL L ks) Xp.n) (hasS []) { C1 with fo := fun _ => False } [] W
      rw [hx]; exact frg_plain rfl rfl
    · obtain ⟨b, c, e', lo, hi, k1, k2, k3, k4⟩ := hp.conc.boxes id cs hid
      exact ⟨b, c, e', lo, hi, k1, k2, k3, RepS.to (.fo _) _ _ (RepS.to t1 cs _ k4)⟩
  have hw1 := round done as todo hys.symm hp.keys Xr rfl (yieldOk_none fun _ _ _ _ _ _ _ h => h) _ _ W hcr
  refine wpIn_mono (show assign.wpIn (Fr (some l)) 0 P _ _ W from hw1) ?_
  rintro e1 a2 W2 ⟨s2, C2, ⟨rfl, hpl, hbody⟩, hc2⟩
  have m2 := hc2.mem
  have hd2 : a2.defers = [] := by
    obtain ⟨_, rs, q1, q2, _⟩ := hc2.frg.marks rfl
    have : rs = [] := q2 rfl
    subst this
    exact q1
  have nt1 : ¬ Touch (hasS []) C1 l := hp.ntl
  have hl2 : W2.heap[l]? = some (.loop { state := .ready, pending := none, fn, tmps := T, params := ps, assign, body, defers := dr }) := (m2.kept l hlW nt1).trans hl0
  have nt2 : ¬ Touch s2.frz C2 l := fun h => (m2.touch h).1.elim (fun h => Nat.not_le_of_lt hlW h) nt1
  have ns2 : ¬ C2.Sh l := fun h => by
    rcases m2.shFrom l h with h | h | h
    · exact (hs1' l h).2 (.inr rfl)
    · exact Nat.not_le_of_lt hlW h
    · exact nt1 h
  -- the record is busy
  let Xr' : Ent := Xp.re (some l) W C1 (fun b => Touch (hasS []) C1 b ∨ b = l) m1.tab hs1'
  have m2' : MemOk Xr' s2.frz C2 W2 := MemOk.more (fun b h => .inl h) m2
  have hs2 : ∀ b, C2.Sh b → b < W2.heap.size ∧ ¬ (Touch s2.frz C2 b ∨ b = l) := fun b hb => ⟨m2.shIn b hb, fun h => h.elim (fun h => (m2.touch h).2.2 hb) fun e => ns2 (e ▸ hb)⟩
  let Xm : Ent := Xr'.re (some l) W2 C2 (fun b => Touch s2.frz C2 b ∨ b = l) m2.tab hs2
  have hcm : Conc Xm s2 { C2 with fo := fun _ => False } a2 W2 :=
    hc2.head rfl (m2'.re fun b h => .inl h) rfl hpl (by rw [hc2.n]) hc2.slots hd2
  let busy : Loop := { state := .busy, pending := none, fn, tmps := T, params := ps, assign, body, defers := dr }
  have hcm3 : Conc Xm s2 { C2 with fo := fun _ => False } a2 (W2.putObj l (.loop busy)) := by
    have := hcm.putObj (ds := []) (.loop busy) (.inr (.inr rfl)) ns2 nt2 (frg_plain (C := C2) rfl hpl)
    have e : ({ a2 with defers := [] } : Act) = a2 := by cases a2; simp at hd2; subst hd2; rfl
    rwa [e] at this
  have m3 := hcm3.mem
  generalize hW3 : W2.putObj l (.loop busy) = W3 at *
  have hl3 : W3.heap[l]? = some (.loop busy) := by rw [← hW3]; exact World.putObj_heap_same (Array.getElem?_eq_some_iff.1 hl2).1
  have hlW3 : l < W3.heap.size := (Array.getElem?_eq_some_iff.1 hl3).1
  have hs3 : ∀ b, C2.Sh b → b < W3.heap.size ∧ ¬ Touch s2.frz C2 b := fun b hb => ⟨m3.shIn b hb, fun h => (hs2 b hb).2 (.inl h)⟩
  let Xb : Ent := Xm.re (some l) W3 { C2 with fo := fun _ => False } (fun b => Touch s2.frz C2 b) m3.tab hs3
  have hcb : Conc Xb s2 { C2 with fo := fun _ => False } a2 W3 := by
    have := hcm3.head (X' := Xb) rfl (m3.re fun b h => h) rfl hpl (by rw [hcm3.n]) hcm3.slots hd2
    exact this
  refine ⟨W3, by rw [← hW3]; exact run_beginRound hl2 rfl, ?_⟩
  have hw3 := hbody Xb rfl (yieldOk_none fun _ _ _ _ _ _ _ h => h) _ _ W3 hcb
  refine wpIn_mono (show body.wpIn (Fr (some l)) 0 P _ _ W3 from hw3) ?_
  rintro e3 a4 W4 ⟨s4, C4, ⟨B', hslim, hkeys, hcase⟩, hc4⟩
  obtain ⟨C5, hc5⟩ := hc4.slim [] ds
  rw [hslim] at hc5
  have m5 := hc5.mem
  have hl4 : W4.heap[l]? = some (.loop busy) := (m5.kept l hlW3 nt2).trans hl3
  have hz23 : W2.heap.size = W3.heap.size := by rw [← hW3]; simp
  have hz3 : W.heap.size ≤ W3.heap.size := by rw [← hz23]; exact m2.size
  have tc : ∀ k, Touch (hasS []) C5 k → Touch (hasS []) C' k ∨ W.heap.size ≤ k := fun k hk => by
    rcases (m5.touch hk).1 with h | h
    · exact .inr (Nat.le_trans hz3 h)
    · rcases (m2.touch h).1 with h | h
      · exact .inr h
      · exact .inl h
  have sc : ∀ k, C5.Sh k → C'.Sh k ∨ Sh k ∨ Touch (hasS []) C' k ∨ W.heap.size ≤ k := fun k hk => by
    rcases m5.shFrom k hk with h | h | h
    · rcases m2.shFrom k h with h | h | h
      · exact h.elim .inl fun h => .inr (.inl h)
      · exact .inr (.inr (.inr h))
      · exact .inr (.inr (.inl h))
    · exact .inr (.inr (.inr (Nat.le_trans hz3 h)))
    · rcases (m2.touch h).1 with h | h
      · exact .inr (.inr (.inr h))
      · exact .inr (.inr (.inl h))
  have nt5 : ¬ Touch (hasS []) C5 l := fun h => (tc l h).elim hp.ntl fun h => Nat.not_le_of_lt hlW h
  have ns5 : ¬ C5.Sh l := fun h => by
    rcases sc l h with h | h | h | h
    · exact hp.nsl h
    · exact (hSh l h).2.1 (.inr rfl)
    · exact hp.ntl h
    · exact Nat.not_le_of_lt hlW h
  have keep4 : ∀ k, k < W.heap.size → ¬ (Touch (hasS []) C' k ∨ k = l) → W4.heap[k]? = W.heap[k]? := fun k h1 h2 => by
    have n1 : ¬ Touch (hasS []) C1 k := fun h => h2 (.inl h)
    have n2 : ¬ Touch s2.frz C2 k := fun h => (m2.touch h).1.elim (fun h => Nat.not_le_of_lt h1 h) n1
    rw [m5.kept k (Nat.lt_of_lt_of_le h1 hz3) n2]
    show W3.heap[k]? = _
    rw [← hW3, World.putObj_heap_other fun e => h2 (.inr e)]
    exact m2.kept k h1 n1
  have mm : MemOk Xp (hasS []) C5 W4 := by
    have h1 : MemOk Xm (hasS []) C5 W4 := MemOk.unre m3 (fun b h => (m3.touch h).1) m5
    have h2 : MemOk Xr' (hasS []) C5 W4 := MemOk.unre m2' (fun b h => h.elim (fun h => (m2'.touch h).1) fun e => .inr (.inr e)) h1
    exact MemOk.unre m1 (fun b h => h.elim (fun h => (m1.touch h).1) fun e => e ▸ hlm) h2
  have hos : W4.os = W.os ∧ W4.tape = W.tape ∧ W4.output = W.output := by
    have a1 := m5.os; have a2' := m5.tape; have a3 := m5.output
    have b1 := m2.os; have b2 := m2.tape; have b3 := m2.output
    have c1 : W3.os = W2.os ∧ W3.tape = W2.tape ∧ W3.output = W2.output := by rw [← hW3]; exact ⟨rfl, rfl, rfl⟩
    exact ⟨a1.trans (c1.1.trans b1), a2'.trans (c1.2.1.trans b2), a3.trans (c1.2.2.trans b3)⟩
  have hfin : ∀ (jump : Option Code) (b : Bool), b = jump.isNone → jumpOf e3 = jump → (b = true → e3 = .normal ∧ B' = Bf (done ++ [.tup as])) → (b = false → QX e3 B') →
      ∃ v w', (Instr.endRound l jump).run P W4 = .ok v w' ∧ ∃ b, Ending.returned v = .returned (.bool b) ∧ ∃ C5 B5 e5,
      Park Xp l rc { tmps := T, defers := [] } ids Bf QX (!b) (done ++ [.tup as]) w' C5 B5 e5 ∧ (∀ k, Touch (hasS []) C5 k → Touch (hasS []) C' k ∨ W.heap.size ≤ k) ∧
      (∀ k, C5.Sh k → C'.Sh k ∨ Sh k ∨ Touch (hasS []) C' k ∨ W.heap.size ≤ k) ∧ W.heap.size ≤ w'.heap.size ∧ (∀ k, k < W.heap.size → ¬ (Touch (hasS []) C' k ∨ k = l) → w'.heap[k]? = W.heap[k]?) ∧ w'.os = W.os ∧ w'.tape = W.tape ∧ w'.output = W.output := by
    intro jump b hb hj hb1 hb2
    refine ⟨_, _, run_endRound jump hl4, b, by rw [hb], { C5 with fo := fun _ => False }, B', e3, ?_, tc, sc, ?_, ?_, hos⟩
    · have hpark : Conc Xp (stOf [] B') { C5 with fo := fun _ => False } { tmps := T, defers := [] } W4 := hc5.head (X' := Xp) rfl mm hX3 rfl hT (fun t => trivial) rfl
      have hpk := hpark.putObj (ds := []) (.loop { busy with state := if jump.isNone = true then .ready else .done, pending := jump }) hlm ns5 nt5 (frg_plain (C := C5) hX3 rfl)
      refine { conc := hpk, fo := rfl, keys := hkeys, recd := ?_, ntl := nt5, nsl := ns5, go := fun h => ?_, ends := fun h => ?_ }
      · rw [World.putObj_heap_same (Array.getElem?_eq_some_iff.1 hl4).1, hrc]
        simp only [hb, hj, busy]
        cases jump <;> rfl
      · have hbt : b = true := by simpa using h
        exact ⟨(hb1 hbt).2, (hb1 hbt).1⟩
      · have hbf : b = false := by simpa using h
        refine ⟨?_, hb2 hbf⟩
        rw [hj]
        rw [hbf] at hb
        cases jump with
        | none => cases hb
        | some => rfl
    · rw [World.putObj_size]; exact Nat.le_trans hz3 m5.size
    · intro k h1 h2
      rw [World.putObj_heap_other fun e => h2 (.inr e)]
      exact keep4 k h1 h2
  cases e3 with
  | normal =>
    refine hfin none true rfl rfl (fun _ => ⟨rfl, ?_⟩) (fun h => by cases h)
    rcases hcase with ⟨_, h⟩ | ⟨h, _⟩
    · exact h
    · cases h
  | ret =>
    refine hfin (some .ret) false rfl rfl (fun h => by cases h) (fun _ => ?_)
    rcases hcase with ⟨h, _⟩ | ⟨_, h⟩
    · cases h
    · exact h
  | exit id =>
    refine hfin (some (.exit id)) false rfl rfl (fun h => by cases h) (fun _ => ?_)
    rcases hcase with ⟨h, _⟩ | ⟨_, h⟩
    · cases h
    · exact h
  | goto t =>
    refine hfin (some (.goto t)) false rfl rfl (fun h => by cases h) (fun _ => ?_)
    rcases hcase with ⟨h, _⟩ | ⟨_, h⟩
    · cases h
    · exact h
  | panic ch =>
    rcases hcase with ⟨h, _⟩ | ⟨h, _⟩ <;> cases h
  | outgrown =>
    rcases hcase with ⟨h, _⟩ | ⟨h, _⟩ <;> cases h
end Go.VS
namespace Go.VS
set_option linter.unusedVariables false
set_option linter.unusedSimpArgs false
set_option linter.unusedSectionVars false
open Go
variable {P : Program}
theorem run_invoke_fn {f : FuncId} (hok : callOk P f = true) (args cap : Array Value) (w : World) : (invoke (.fn (.func f) cap) args).run P w = .ok (.enter f (args ++ cap)) w := by
  unfold callOk at hok
  split at hok
  · rename_i fn hfn
    simp only [Bool.and_eq_true, bne_iff_ne, ne_eq] at hok
    obtain ⟨hb1, hb2⟩ := hok
    simp [invoke, callFunc, hfn, hb2]
    intro hbn; simp [hbn] at hb1
  · cases hok
mutual
/-- What boxes hold that come back: their places are the caller's again. -/
theorem Rep.backS {w w' : World} {C C' : Ctx} {ids : List Nat} {n : Nat} (hsh : ∀ b, C.Sh b → C'.Sh b ∧ w'.heap[b]? = w.heap[b]?) (hbx : ∀ j b, j < n → C.box (1000000 + j) = some b → C'.box (ids.getD j 0) = some b) :
    ∀ (a : AV) (v : Value), okB (bxIds 1000000 n) a = true → VS.stab [] a = true → Rep w C a v → Rep w' C' (backA 0 ids a) v
  | .undef, _, _, _, _ => trivial
  | .ghost .., _, _, _, _ => trivial
  | .hid _, _, _, _, _ => trivial
  | .int .., _, _, _, h => h
  | .bool .., _, _, _, h => h
  | .str .., _, _, _, h => h
  | .sl none nb sz l, v, _, _, h => RepF.keep hsh _ v h
  | .sl (some _) .., _, _, hk, _ => by simp [VS.stab] at hk
  | .ptr id off, v, hk, _, h => by
    obtain ⟨b, h1, h2⟩ := h
    obtain ⟨i, hi⟩ := List.mem_iff_getElem?.1 (hasN_mem.1 (by simpa [okB] using hk))
    rw [bxIds_get] at hi
    split at hi
    · rename_i hlt
      have e : id = 1000000 + i := by simpa using hi.symm
      subst e
      exact ⟨b, by rw [show 1000000 + i - 1000000 = i by omega]; exact hbx i b hlt h1, h2⟩
    · cases hi
  | .nilp, _, _, _, h => h
  | .eptr .., _, _, hk, _ => by simp [VS.stab] at hk
  | .agg cs, v, hk, hk2, h => by
    obtain ⟨vs, h1, h2⟩ := h
    exact ⟨vs, h1, RepS.backS hsh hbx cs vs hk hk2 h2⟩
  | .tup cs, v, hk, hk2, h => by
    obtain ⟨vs, h1, h2⟩ := h
    exact ⟨vs, h1, RepSU.backS hsh hbx cs vs hk hk2 h2⟩
  | .fn f cs, v, hk, hk2, h => by
    obtain ⟨vs, h1, h2⟩ := h
    exact ⟨vs, h1, RepS.backS hsh hbx cs vs hk hk2 h2⟩
  | .nilf, _, _, _, h => h
  | .yl _, _, _, _, h => h
  | .itp .., _, _, _, h => h
  | .bsl id off len cap, v, hk, _, h => by
    obtain ⟨b, h1, h2⟩ := h
    obtain ⟨i, hi⟩ := List.mem_iff_getElem?.1 (hasN_mem.1 (by simpa [okB] using hk))
    rw [bxIds_get] at hi
    split at hi
    · rename_i hlt
      have e : id = 1000000 + i := by simpa using hi.symm
      subst e
      exact ⟨b, by rw [show 1000000 + i - 1000000 = i by omega]; exact hbx i b hlt h1, h2⟩
    · cases hi
theorem RepS.backS {w w' : World} {C C' : Ctx} {ids : List Nat} {n : Nat} (hsh : ∀ b, C.Sh b → C'.Sh b ∧ w'.heap[b]? = w.heap[b]?) (hbx : ∀ j b, j < n → C.box (1000000 + j) = some b → C'.box (ids.getD j 0) = some b) :
    ∀ (l : List AV) (vs : List Value), okBL (bxIds 1000000 n) l = true → stabL [] l = true → RepS w C l vs → RepS w' C' (backL 0 ids l) vs
  | [], _, _, _, h => h
  | c :: cs, _, hk, hk2, h => by
    obtain ⟨v, r, h1, h0, h2, h3⟩ := h
    simp only [okBL, Bool.and_eq_true] at hk
    simp only [stabL, Bool.and_eq_true] at hk2
    exact ⟨v, r, h1, h0, Rep.backS hsh hbx c v hk.1 hk2.1 h2, RepS.backS hsh hbx cs r hk.2 hk2.2 h3⟩
theorem RepSU.backS {w w' : World} {C C' : Ctx} {ids : List Nat} {n : Nat} (hsh : ∀ b, C.Sh b → C'.Sh b ∧ w'.heap[b]? = w.heap[b]?) (hbx : ∀ j b, j < n → C.box (1000000 + j) = some b → C'.box (ids.getD j 0) = some b) :
    ∀ (l : List AV) (vs : List Value), okBL (bxIds 1000000 n) l = true → stabL [] l = true → RepSU w C l vs → RepSU w' C' (backL 0 ids l) vs
  | [], _, _, _, h => h
  | c :: cs, _, hk, hk2, h => by
    obtain ⟨v, r, h1, h2, h3⟩ := h
    simp only [okBL, Bool.and_eq_true] at hk
    simp only [stabL, Bool.and_eq_true] at hk2
    exact ⟨v, r, h1, Rep.backS hsh hbx c v hk.1 hk2.1 h2, RepSU.backS hsh hbx cs r hk.2 hk2.2 h3⟩
end
/-- A loop over an iterator: the iterator's contract, one round, and what comes behind. -/
theorem AWP.range {X : Ent} {g : Operand} {ps : Array Tmp} {assign body : Code} {Q : Exit → St → Prop} (ids : List Nat) (css : List (List AV)) (L : List (Nat × AV)) (Bf : List AV → List (Nat × List AV)) (ks ds : List Nat)
    (QX : Exit → List (Nat × List AV) → Prop) {f : FuncId} {cap : List AV} {ys : List AV} {bs' : List (List AV)} (hX : X.round = none ∧ X.it = false ∧ X.dm = false)
    (hg : (stOf L (ids.zip css ++ Bf [])).ev P 0 g = .fn f cap) (hok : callOk P f = true) (hit : IterB P f (cap.map (rnB 4 [] ids)) (css.map (rnBL 4 [] ids)) ys bs')
    (h1 : (ids.length = css.length ∧ nodupN ids = true) ∧ (∀ k ∈ ids, 1000000 ≤ k) ∧ (okBL ids cap = true ∧ stAL cap = []) ∧ (∀ cs ∈ css, okBL ids cs = true ∧ stAL cs = []))
    (h2 : (∀ p ∈ L, stab [] p.2 = true) ∧ (∀ k ∈ ks, k < X.n ∧ stab ids (lk L k) = true) ∧ plainS (lk L X.n) = true)
    (h3 : okKeys ids (Bf []) = true ∧ ∀ p ∈ Bf [], noIdL ids p.2 = true)
    (h4 : nodupN ps.toList = true ∧ (∀ p ∈ ps.toList, p < X.n)) (h5 : ∀ y ∈ ys, ∃ as, y = .tup as ∧ as.length = ps.size)
    (h6 : bs'.length = ids.length ∧ ∀ cs ∈ bs', okBL (bxIds 1000000 ids.length) cs = true ∧ stabL [] cs = true)
    (round : ∀ done as todo, ys = done ++ .tup as :: todo → okKeys ids (Bf done) = true → ∀ X' : Ent, X'.n = X.n → AWP P X' assign (fun e s => e = .normal ∧ plainS (s.s X.n) = true ∧ ∀ X'' : Ent, X''.n = X.n → AWP P X'' body (roundQ ids ds (Bf (done ++ [.tup as])) QX) s) (stOf (ps.toList.zip as ++ selL L ks) (Bf done)))
    (hend : okKeys ids (Bf ys) = true → Q .normal (stOf L (ids.zip (bs'.map (backL 0 ids)) ++ Bf ys)))
    (hjump : ∀ e B, (jumpOf e).isSome = true → QX e B → Q e (stOf L (ids.zip (bs'.map (backL 0 ids)) ++ B))) :
    AWP P X (.rangeFunc g ps assign body) Q (stOf L (ids.zip css ++ Bf [])) := by
  intro hy C a w hc
  obtain ⟨hX1, hX2, hX3⟩ := hX
  obtain ⟨⟨h1a, h1b⟩, h1c, ⟨h1d, h1e⟩, h1f⟩ := h1
  obtain ⟨h2a, h2b, h2c⟩ := h2
  obtain ⟨h3a, h3b⟩ := h3
  rw [hX1]
  refine wpIn_rangeFunc (fun fn _ => ?_)
  -- the loop begins
  let rc : Bool → Option Code → Loop := fun stop jump => { state := if stop = true then .done else .ready, pending := jump, fn, tmps := a.tmps, params := ps, assign, body, defers := w.heap.size }
  let w1 : World := (w.alloc (.deferred (some []))).alloc (.loop (rc false none))
  have henter : (Instr.enterLoop fn a.tmps ps assign body (Fr none).round).run P w = .ok (w.heap.size + 1, [collD w.heap.size]) w1 := run_enterLoop_outer fn a.tmps ps assign body
  have hev := hc.ev P 0 g
  rw [hg] at hev
  obtain ⟨cvs, hgv, hcap⟩ := hev
  generalize hl : w.heap.size + 1 = l at *
  have hres : (resolve a.eval (rangeCall g l) 0).run P w1 = .ok { target := .fn (.func f) cvs.toArray, args := #[.func (.yield l) #[] #[]] } w1 := by
    have hce : a.eval (.const (.func (.yield l) #[] #[])) = .func (.yield l) #[] #[] := rfl
    simp [resolve, rangeCall, hgv, Deferred.ofValue, hce]
  have hinv := run_invoke_fn (P := P) hok #[.func (.yield l) #[] #[]] cvs.toArray w1
  refine ⟨l, [collD w.heap.size], w1, _, w1, f, _, w1, henter, hres, fun _ _ => trivial, hinv, fun h => (by simp [Fr] at h), callsIn_fr ?_⟩
  have e0 : (#[Value.func (.yield l) #[] #[]] ++ cvs.toArray) = (Value.func (.yield l) #[] #[] :: cvs).toArray := by apply Array.ext'; simp
  rw [e0]
  -- the views
  have hc1 : Conc X (stOf L (ids.zip css ++ Bf [])) C a w1 := (hc.alloc _).alloc _
  have m0 := hc.mem
  have m1 := hc1.mem
  have hz1 : w1.heap.size = w.heap.size + 2 := by simp [w1]
  obtain ⟨z1, z2⟩ := lkB_zip ids css h1a h1b
  have hkeysB : ∀ {B : List (Nat × List AV)}, okKeys ids B = true → ∀ id cs, lkB B id = some cs → 1000000 ≤ id ∧ hasN ids id = false := fun {B} hB id cs h => by
    have := List.all_eq_true.1 hB _ (lkB_mem h)
    simpa using this
  have hlook : ∀ (B : List (Nat × List AV)) (css : List (List AV)) (_ : ids.length = css.length) (id : Nat), hasN ids id = false → lkB (ids.zip css ++ B) id = lkB B id := fun B css hl id hid => by
    rw [lkB_append, (lkB_zip ids css hl h1b).2 id hid]
  have hbig : ∀ id b, C.box id = some b → 1000000 ≤ id := fun id b hb => by
    have := hc.boxSome id b hb
    obtain ⟨cs, hcs⟩ := Option.isSome_iff_exists.1 this
    have hcs : lkB (ids.zip css ++ Bf []) id = some cs := hcs
    cases e : hasN ids id with
    | true => exact h1c id (hasN_mem.1 e)
    | false => rw [hlook _ css h1a id e] at hcs; exact (hkeysB h3a id cs hcs).1
  let nf : Stamp → Bool := hasS []
  have nodead : ∀ g, C.own g ≠ .dead := fun g hd => by have := (hc.cons g).2 hd; cases this
  let Cp : Ctx := { Sh := C.Sh, own := C.own, box := fun id => if hasN ids id = true then none else C.box id, fo := fun _ => False }
  let Ci : Ctx := { Sh := C.Sh, own := fun _ => .none, box := fun id => if 1000000 ≤ id then (ids[id - 1000000]?).bind C.box else none, fo := fun _ => False }
  have cpb : ∀ id b, Cp.box id = some b → hasN ids id = false ∧ C.box id = some b := fun id b hb => by
    replace hb : (if hasN ids id = true then none else C.box id) = some b := hb
    split at hb
    · cases hb
    · rename_i e; exact ⟨by simpa using e, hb⟩
  have cpb' : ∀ id b, hasN ids id = false → C.box id = some b → Cp.box id = some b := fun id b e hb => by
    show (if hasN ids id = true then none else C.box id) = some b
    rw [if_neg (by simp [e])]; exact hb
  have cib : ∀ id b, Ci.box id = some b → 1000000 ≤ id ∧ ∃ k, ids[id - 1000000]? = some k ∧ C.box k = some b := fun id b hb => by
    replace hb : (if 1000000 ≤ id then (ids[id - 1000000]?).bind C.box else none) = some b := hb
    split at hb
    · obtain ⟨k, q1, q2⟩ := Option.bind_eq_some_iff.1 hb
      exact ⟨by assumption, k, q1, q2⟩
    · cases hb
  have cib' : ∀ (i k b : Nat), ids[i]? = some k → C.box k = some b → Ci.box (1000000 + i) = some b := fun i k b hi hb => by
    show (if 1000000 ≤ 1000000 + i then (ids[1000000 + i - 1000000]?).bind C.box else none) = some b
    rw [if_pos (by omega), show 1000000 + i - 1000000 = i by omega, hi]
    exact hb
  have tcp : ∀ b, Touch nf Cp b → Touch nf C b := fun b hb => hb.imp id fun ⟨id, h⟩ => ⟨id, (cpb id b h).2⟩
  let own0 : Nat → Prop := fun b => Touch nf C b ∨ b = l
  have hlC : ∀ b, Touch nf C b ∨ C.Sh b → b < w.heap.size := fun b hb => hb.elim (fun h => (m0.touch h).2.1) (m0.shIn b)
  have hs1 : ∀ b, C.Sh b → b < w1.heap.size ∧ ¬ own0 b := fun b hb => ⟨m1.shIn b hb, fun h => h.elim (fun h => (m0.touch h).2.2 hb) fun e => by have := hlC b (.inr hb); omega⟩
  have own0X : ∀ b, own0 b → X.mine b := fun b hb => hb.elim (fun h => (m0.touch h).1) fun e => .inl (by have := m0.size; omega)
  let Xp : Ent := X.re none w1 Cp own0 m1.tab hs1
  -- what the caller has meanwhile
  have hpm : MemOk Xp nf Cp w1 :=
    { shIn := m1.shIn, shFrom := fun b hb => .inl hb, shOld := fun b hb => hb, ownIn := m1.ownIn, ownOne := m1.ownOne, ownBox := fun g b base id hg hf hb => m1.ownBox g b base id hg hf (cpb id b hb).2, ownSh := m1.ownSh,
      ownFrz := fun g b base hg hf => (by cases hf), ownMine := fun g b base hg hf => .inr (.inl (.inl ⟨g, base, hg, hf⟩)), boxIn := fun id b hb => m1.boxIn id b (cpb id b hb).2,
      boxOne := fun id id' b hb hb' => m1.boxOne id id' b (cpb id b hb).2 (cpb id' b hb').2, boxSh := fun id b hb => m1.boxSh id b (cpb id b hb).2, boxMine := fun id b hb => .inr (.inl (.inr ⟨id, (cpb id b hb).2⟩)),
      kept := fun _ _ _ => rfl, size := Nat.le_refl _, os := rfl, tape := rfl, output := rfl,
      inB := fun id b hb => by
        replace hb : (if 1000000 ≤ id then Cp.box id else none) = some b := hb
        split at hb
        · exact hb
        · cases hb }
  have hpark : Conc Xp (stOf [] (Bf [])) Cp { tmps := a.tmps, defers := [] } w1 := by
    refine { n := hc.n, slots := fun t => trivial, frg := frg_plain (C := Cp) rfl rfl, boxes := fun id cs hid => ?_, boxSome := fun id b hid => ?_, mem := hpm, cons := hc.cons, made := hc.made, tg := hc.tg, tgInj := hc.tgInj, tgMade := hc.tgMade }
    · have hid' : lkB (Bf []) id = some cs := hid
      obtain ⟨_, e⟩ := hkeysB h3a id cs hid'
      obtain ⟨b, c, e', lo, hi, k1, k2, k3, k4⟩ := hc1.boxes id cs (show lkB (ids.zip css ++ Bf []) id = some cs by rw [hlook _ css h1a id e]; exact hid')
      exact ⟨b, c, e', lo, hi, cpb' id b e k1, k2, k3, RepS.noId (C := C) (C' := Cp) rfl rfl (fun id b hn hb => cpb' id b hn hb) cs _ (h3b (id, cs) (lkB_mem hid')) k4⟩
    · obtain ⟨e, hb⟩ := cpb id b hid
      have := hc.boxSome id b hb
      rw [show (stOf L (ids.zip css ++ Bf [])).bx id = lkB (ids.zip css ++ Bf []) id from rfl, hlook _ css h1a id e] at this
      exact this
  have hlw : w1.heap[l]? = some (.loop (rc false none)) := by
    have := World.alloc_heap_new (w.alloc (.deferred (some []))) (.loop (rc false none))
    rw [World.size_alloc, hl] at this; exact this
  have ntlC : ¬ Touch nf C l := fun h => by have := hlC l (.inl h); omega
  have nslC : ¬ C.Sh l := fun h => by have := hlC l (.inr h); omega
  let J := JR Xp l rc { tmps := a.tmps, defers := [] } ids ys Bf QX
  have hJ0 : J l false [] ys (fun b => Touch nf Cp b ∨ b = l) Cp.Sh w1 :=
    ⟨rfl, rfl, Cp, Bf [], .normal, { conc := hpark, fo := rfl, keys := h3a, recd := hlw, ntl := fun h => ntlC (tcp l h), nsl := nslC, go := fun _ => ⟨rfl, rfl⟩, ends := fun h => by cases h }, rfl, rfl⟩
  have hbi : ∀ id b, Ci.box id = some b → 1000000 ≤ id := fun id b hb => (cib id b hb).1
  have hmineEq : ∀ b, (Ent.lent w1 Ci own0 0 hbi m1.tab hs1).mine b ↔ Xp.mine b := fun b => Iff.rfl
  have hyi : YieldOk P (Ent.iter w1 Ci own0 0 J hbi m1.tab hs1) := by
    intro l' done todo as M S W Sh vals hJ hMS hSh hra
    obtain ⟨hll, hdt, C', B, e, hp, rfl, rfl⟩ := hJ W (.refl W)
    have hll := hll.symm
    subst hll
    obtain ⟨as', ha1, ha2⟩ := h5 (.tup as) (by rw [← hdt]; simp)
    cases ha1
    obtain ⟨tmps, hrun, hround⟩ := park_round (P := P) (Xp := Xp) (Cp := C) (L := L) (ks := ks) (ds := ds) (assign := assign) (body := body) (ps := ps) (fn := fn) (dr := w.heap.size) (T := a.tmps) rfl ⟨rfl, rfl, rfl⟩ hc.n h4 (fun k hk => h2b k hk) rfl
      (fun id b hb hn => by
        show (if 1000000 ≤ id then Cp.box id else none) = some b
        rw [if_pos (hbig id b hb)]; exact cpb' id b hn hb)
      (fun t => hc1.slots t) (.inr (.inr rfl)) (fun b hb e => nslC (e ▸ hb)) round hdt ha2 hp (fun b hb => hSh b hb) hra
    refine ⟨fn, tmps, assign, body, hrun, hround.mono ?_⟩
    rintro e' W' ⟨b, rfl, C5, B5, e5, hp5, tc, sc, hz, hk, ho, ht, hu⟩
    have hlW : l < W.heap.size := hMS l (.inl (.inr rfl))
    refine ⟨b, rfl, fun k => Touch (hasS []) C5 k ∨ k = l, C5.Sh, fun w'' hx => ?_, fun k hk => ?_, fun k hk => ?_, fun k hk => ?_, hz, hk, ho, ht, hu⟩
    · exact JR.ext ⟨rfl, by rw [← hdt]; simp, C5, B5, e5, hp5, rfl, rfl⟩ hx
    · rcases hk with (hk | rfl) | hk
      · exact (hp5.conc.mem.touch hk).2.1
      · omega
      · exact hp5.conc.mem.shIn k hk
    · rcases hk with hk | rfl
      · exact (tc k hk).imp .inl id
      · exact .inl (.inr rfl)
    · rcases sc k hk with h | h | h | h
      · exact .inl h
      · exact .inr (.inl h)
      · exact .inr (.inr (.inl (.inl h)))
      · exact .inr (.inr (.inr h))
  have hmi : MemOk (Ent.lent w1 Ci own0 0 hbi m1.tab hs1) (fun _ => false) Ci w1 :=
    { shIn := m1.shIn, shFrom := fun b hb => .inl hb, shOld := fun b hb => hb, ownIn := fun g b base hh => (by cases hh), ownOne := fun g g' b _ _ hh => (by cases hh), ownBox := fun g b base id hh => (by cases hh),
      ownSh := fun g b base hh => (by cases hh), ownFrz := fun g b base hh => (by cases hh), ownMine := fun g b base hh => (by cases hh), boxIn := fun id b hb => by obtain ⟨_, k, _, h⟩ := cib id b hb; exact m1.boxIn k b h,
      boxOne := fun id id' b hb hb' => by
        obtain ⟨q1, k, e1, k1⟩ := cib id b hb
        obtain ⟨q2, k', e2, k2⟩ := cib id' b hb'
        have := m1.boxOne k k' b k1 k2
        subst this
        have := posN_at h1b e1
        have := posN_at h1b e2
        omega
      boxSh := fun id b hb => by obtain ⟨_, k, _, h⟩ := cib id b hb; exact m1.boxSh k b h,
      boxMine := fun id b hb => by obtain ⟨_, k, _, h⟩ := cib id b hb; exact .inr (.inl (.inr ⟨k, h⟩)),
      kept := fun _ _ _ => rfl, size := Nat.le_refl _, os := rfl, tape := rfl, output := rfl, inB := fun _ _ h => h }
  have hrn : ∀ id b, hasN ids id = true → C.box id = some b → Ci.box (1000000 + posN ids id) = some b := fun id b hh hb => cib' _ id b (posN_get hh) hb
  have okNil : ∀ (l : List AV), stAL l = [] → ∀ (v : AV), v ∈ l → stA v = [] := fun l => by
    induction l with
    | nil => intro _ v hv; cases hv
    | cons c l ih =>
      intro h v hv
      simp only [stAL, List.append_eq_nil_iff] at h
      rcases List.mem_cons.1 hv with rfl | hv
      · exact h.1
      · exact ih h.2 v hv
  have okMem : ∀ (l : List AV), okBL ids l = true → ∀ (v : AV), v ∈ l → okB ids v = true := fun l => by
    induction l with
    | nil => intro _ v hv; cases hv
    | cons c l ih =>
      intro h v hv
      simp only [okBL, Bool.and_eq_true] at h
      rcases List.mem_cons.1 hv with rfl | hv
      · exact h.1
      · exact ih h.2 v hv
  have hargs : ∀ (i : Nat) (v : AV) (u : Value), (cap.map (rnB 4 [] ids))[i]? = some v → cvs[i]? = some u → Rep w1 Ci v u := by
    intro i v u hv hu
    simp only [List.getElem?_map, Option.map_eq_some_iff] at hv
    obtain ⟨v0, hv0, rfl⟩ := hv
    have hev1 := hc1.ev P 0 g
    rw [hg] at hev1
    obtain ⟨cvs1, hgv1, hcap1⟩ := hev1
    have : cvs = cvs1 := by rw [hgv] at hgv1; simpa using hgv1
    subst this
    obtain ⟨u', hu', _, hr⟩ := hcap1.get hv0
    rw [hu] at hu'; cases hu'
    have hmem : v0 ∈ cap := List.mem_of_getElem? hv0
    exact Rep.rnB (C := C) (C2 := Ci) rfl hrn v0 _ (okMem cap h1d v0 hmem) (by rw [okNil cap h1e v0 hmem]; simp) hr
  have hbxs : ∀ (i : Nat) (cs : List AV), (css.map (rnBL 4 [] ids))[i]? = some cs → BoxAt w1 Ci (1000000 + i) cs := by
    intro i cs hi0
    simp only [List.getElem?_map, Option.map_eq_some_iff] at hi0
    obtain ⟨cs0, hi, rfl⟩ := hi0
    have hlt := (List.getElem?_eq_some_iff.1 hi).1
    have hid : ids[i]? = some ids[i] := List.getElem?_eq_getElem (by omega)
    obtain ⟨b, c', e, lo, hi', g1, g2, g3, g4⟩ := hc1.boxes ids[i] cs0 (show lkB (ids.zip css ++ Bf []) ids[i] = some cs0 by rw [lkB_append, z1 i _ _ hid hi])
    obtain ⟨q1, q2⟩ := h1f cs0 (List.mem_of_getElem? hi)
    exact ⟨b, c', e, lo, hi', cib' i _ b hid g1, g2, g3, RepS.rnB (C := C) (C2 := Ci) rfl hrn cs0 _ q1 (by rw [q2]; simp) g4⟩
  have nlent : ∀ id b, Ci.box id = some b → ¬ (Touch nf Cp b ∨ b = l) ∧ ¬ Cp.Sh b := fun id b hb => by
    obtain ⟨_, k, e1, k1⟩ := cib id b hb
    refine ⟨fun h => ?_, fun h => m1.boxSh k b k1 h⟩
    rcases h with (⟨g, base, q1, q2⟩ | ⟨id', q1⟩) | h
    · exact hc1.boxNoOwn k1 g base q1
    · obtain ⟨q2, q3⟩ := cpb id' b q1
      rw [m1.boxOne id' k b q3 k1, hasN_mem.2 (List.mem_of_getElem? e1)] at q2; cases q2
    · have := hlC b (.inl (.inr ⟨k, k1⟩)); omega
  refine (hit w1 Ci own0 J hbi m1.tab hs1 cvs l (fun b => Touch nf Cp b ∨ b = l) Cp.Sh hyi hmi (fun _ => rfl) (fun id b hb => ?_) ?_ hargs hbxs (fun w' hx => JR.ext hJ0 hx) (fun b hb => ?_) (fun b hb => hb.imp (tcp b) id) nlent (fun b hb h => ?_)).mono ?_
  · obtain ⟨q1, k, e1, _⟩ := cib id b hb
    have := (List.getElem?_eq_some_iff.1 e1).1
    rw [List.length_map]; omega
  · have := hcap.length
    simp [this]
  · rcases hb with (hb | rfl) | hb
    · exact (hpm.touch hb).2.1
    · omega
    · exact m1.shIn b hb
  · rcases h with h | rfl
    · exact (hpm.touch h).2.2 hb
    · exact nslC hb
  -- the iterator has ended
  rintro e' W' ⟨v, rfl, stop, done, todo, M', S', Ci', hst, hJ', hmi', hbx', hlM, hSM⟩
  obtain ⟨_, hdt, C', B, e, hp, rfl, rfl⟩ := hJ'
  have mp := hp.conc.mem
  have hrec := hp.recd
  refine ⟨jumpOf e, W'.putObj l (.loop { rc stop (jumpOf e) with state := .exhausted }), run_endLoop hrec (by cases stop <;> simp [rc]), ?_⟩
  generalize hW2 : W'.putObj l (.loop { rc stop (jumpOf e) with state := .exhausted }) = W2
  have hlW : l < W'.heap.size := (Array.getElem?_eq_some_iff.1 hrec).1
  have hz2 : W2.heap.size = W'.heap.size := by rw [← hW2]; simp
  have hkW2 : ∀ k, k ≠ l → W2.heap[k]? = W'.heap[k]? := fun k hk => by rw [← hW2]; exact World.putObj_heap_other hk
  let bs2 := bs'.map (backL 0 ids)
  let Cf : Ctx := { Sh := fun b => C'.Sh b ∨ Ci'.Sh b, own := C'.own, box := fun id => if hasN ids id = true then C.box id else C'.box id, fo := fun b => C.fo b ∨ b = w.heap.size }
  have cfb : ∀ id b, Cf.box id = some b → (hasN ids id = true ∧ C.box id = some b) ∨ (hasN ids id = false ∧ C'.box id = some b) := fun id b hb => by
    replace hb : (if hasN ids id = true then C.box id else C'.box id) = some b := hb
    split at hb
    · rename_i e; exact .inl ⟨e, hb⟩
    · rename_i e; exact .inr ⟨by simpa using e, hb⟩
  have lent : ∀ id b, hasN ids id = true → C.box id = some b → ¬ Touch nf C' b ∧ ¬ C'.Sh b ∧ b ≠ l ∧ ¬ Ci'.Sh b ∧ b < w.heap.size := fun id b e hb => by
    have hi := hrn id b e hb
    obtain ⟨q1, q2⟩ := hlM _ b hi
    refine ⟨fun h => q1 (.inl h), q2, fun h => q1 (.inr h), fun h => ?_, hlC b (.inl (.inr ⟨id, hb⟩))⟩
    exact hmi'.boxSh _ b (hmi'.inB _ b hi) h
  have hXpm : ∀ b, Xp.mine b → X.mine b := fun b hb => hb.elim (fun h => .inl (by have := m0.size; have h' : w1.heap.size ≤ b := h; omega)) (own0X b)
  have shC' : ∀ b, C.Sh b → C'.Sh b := fun b hb => mp.shOld b hb
  have keepSh : ∀ b, C.Sh b → W2.heap[b]? = w1.heap[b]? := fun b hb => by
    rw [hkW2 b fun e => nslC (e ▸ hb)]
    exact mp.kept b (hs1 b hb).1 (hs1 b hb).2
  have inB' : ∀ id b, hasN ids id = false → C.box id = some b → C'.box id = some b := fun id b e hb => mp.inB id b (by
    show (if 1000000 ≤ id then Cp.box id else none) = some b
    rw [if_pos (hbig id b hb)]; exact cpb' id b e hb)
  have boxAll : ∀ id b, C.box id = some b → Cf.box id = some b := fun id b hb => by
    show (if hasN ids id = true then C.box id else C'.box id) = some b
    split
    · exact hb
    · rename_i e; exact inB' id b (by simpa using e) hb
  have hmf : MemOk X nf Cf W2 :=
    { shIn := fun b hb => by rw [hz2]; exact hb.elim (mp.shIn b) (hmi'.shIn b),
      shFrom := fun b hb => by
        have : Xp.Sh0 b ∨ Xp.mine b := hb.elim (mp.shFrom b) (hmi'.shFrom b)
        exact this.elim (m0.shFrom b) fun h => .inr (hXpm b h)
      shOld := fun b hb => .inl (shC' b (m0.shOld b hb)), ownIn := fun g b base h => by rw [hz2]; exact mp.ownIn g b base h, ownOne := mp.ownOne,
      ownBox := fun g b base id hg hf hb => by
        rcases cfb id b hb with ⟨e, h⟩ | ⟨_, h⟩
        · exact (lent id b e h).1 (.inl ⟨g, base, hg, hf⟩)
        · exact mp.ownBox g b base id hg hf h
      ownSh := fun g b base hg hf hs => hs.elim (mp.ownSh g b base hg hf) fun h => hSM b h (.inl (.inl ⟨g, base, hg, hf⟩)),
      ownFrz := fun g b base hg hf => (by cases hf), ownMine := fun g b base hg hf => hXpm b (mp.ownMine g b base hg hf),
      boxIn := fun id b hb => by
        rw [hz2]
        rcases cfb id b hb with ⟨e, h⟩ | ⟨_, h⟩
        · have := (lent id b e h).2.2.2.2
          have := mp.size
          have h' : w1.heap.size ≤ W'.heap.size := this
          omega
        · exact mp.boxIn id b h
      boxOne := fun id id' b hb hb' => by
        rcases cfb id b hb with ⟨e, h⟩ | ⟨e, h⟩ <;> rcases cfb id' b hb' with ⟨e', h'⟩ | ⟨e', h'⟩
        · exact m0.boxOne id id' b h h'
        · exact ((lent id b e h).1 (.inr ⟨id', h'⟩)).elim
        · exact ((lent id' b e' h').1 (.inr ⟨id, h⟩)).elim
        · exact mp.boxOne id id' b h h'
      boxSh := fun id b hb hs => by
        rcases cfb id b hb with ⟨e, h⟩ | ⟨_, h⟩
        · exact hs.elim (lent id b e h).2.1 (lent id b e h).2.2.2.1
        · exact hs.elim (mp.boxSh id b h) fun hs => hSM b hs (.inl (.inr ⟨id, h⟩))
      boxMine := fun id b hb => by
        rcases cfb id b hb with ⟨_, h⟩ | ⟨_, h⟩
        · exact m0.boxMine id b h
        · exact hXpm b (mp.boxMine id b h)
      kept := fun b q1 q2 => by
        have hne : b ≠ l := fun e => by have := m0.size; omega
        have hno : ¬ own0 b := fun h => (own0X b h).elim (fun h => by omega) q2
        rw [hkW2 b hne, mp.kept b (show b < w1.heap.size by have := m0.size; omega) hno]
        show w1.heap[b]? = _
        rw [m1.kept b q1 q2]
      size := by rw [hz2]; have h' : w1.heap.size ≤ W'.heap.size := mp.size; have := m0.size; omega,
      os := by rw [← hW2]; exact mp.os.trans m1.os, tape := by rw [← hW2]; exact mp.tape.trans m1.tape, output := by rw [← hW2]; exact mp.output.trans m1.output,
      inB := fun id b hb => boxAll id b (m0.inB id b hb) }
  have tP : C'.To W' W2 Cf := by
    refine ⟨fun b hb => ⟨.inl hb, hkW2 b fun e => hp.nsl (e ▸ hb)⟩, fun id b hb => ?_, fun g => .inr (.inr ⟨rfl, fun b base hb => hkW2 b fun e => hp.ntl (.inl ⟨g, base, e ▸ hb, rfl⟩)⟩)⟩
    have := hp.conc.boxSome id b hb
    obtain ⟨cs, hcs⟩ := Option.isSome_iff_exists.1 this
    have e := (hkeysB hp.keys id cs hcs).2
    show (if hasN ids id = true then C.box id else C'.box id) = some b
    rw [if_neg (by simp [e])]; exact hb
  have hf : Conc X (stOf L (ids.zip bs2 ++ B)) Cf { a with defers := [collD w.heap.size] ++ a.defers } W2 := by
    have hb2l : ids.length = bs2.length := by simp [bs2, h6.1]
    obtain ⟨y1, y2⟩ := lkB_zip ids bs2 hb2l h1b
    obtain ⟨hhid, rs, r1, r2, r3, r4⟩ := hc.frg.marks hX3
    have hex : ∀ (j : Nat) (hj : j < ids.length), ∃ b', C.box ids[j] = some b' := fun j hj => by
      have hpos : ids[j]? = some ids[j] := List.getElem?_eq_getElem hj
      have hcs0 : lkB (ids.zip css ++ Bf []) ids[j] = some css[j] := by
        rw [lkB_append, z1 _ ids[j] css[j] hpos (List.getElem?_eq_getElem (by omega))]
      obtain ⟨b', _, _, _, _, q1, _⟩ := hc.boxes ids[j] _ hcs0
      exact ⟨b', q1⟩
    refine { n := hc.n, slots := fun t => ?_, frg := ?_, boxes := fun id cs hid => ?_, boxSome := fun id b hid => ?_, mem := hmf, cons := hp.conc.cons, made := hp.conc.made, tg := hp.conc.tg, tgInj := hp.conc.tgInj, tgMade := hp.conc.tgMade }
    · have hs : stab [] (lk L t) = true := by
        have : ∀ (L : List (Nat × AV)), (∀ p ∈ L, stab [] p.2 = true) → stab [] (lk L t) = true := fun L => by
          induction L with
          | nil => intro _; rfl
          | cons p L ih =>
            intro h
            obtain ⟨k, v⟩ := p
            simp only [lk]
            split
            · exact h (k, v) (by simp)
            · exact ih fun p hp => h p (by simp [hp])
        exact this L h2a
      exact Rep.stab (w := w1) (C := C) (w' := W2) (C' := Cf) (ids := []) (fun b hb => ⟨.inl (shC' b hb), keepSh b hb⟩) (fun id b _ hb => boxAll id b hb) _ _ hs (hc1.slots t)
    · have fin' : ∀ b, C.fo b → b < w.heap.size ∧ ¬ Touch nf C b ∧ b ≠ l := fun b hb => ⟨hc.frg.fin b hb, fun h => hc.frg.out b h hb, fun e => by have := hc.frg.fin b hb; omega⟩
      have keepFo : ∀ b, C.fo b → W2.heap[b]? = w.heap[b]? := fun b hb => by
        obtain ⟨q1, q2, q3⟩ := fin' b hb
        rw [hkW2 b q3, mp.kept b (show b < w1.heap.size by omega) fun h => h.elim q2 q3]
        show w1.heap[b]? = _
        rw [show w1.heap[b]? = (w.alloc (.deferred (some []))).heap[b]? from heap_alloc_ne (by simp; omega)]
        exact heap_alloc_ne q1
      have nfo : ∀ b, Xp.mine b → ¬ (C.fo b ∨ b = w.heap.size) := fun b hb hfo => by
        rcases hfo with hfo | rfl
        · obtain ⟨q1, q2, q3⟩ := fin' b hfo
          rcases hb with hb | hb
          · have hb' : w1.heap.size ≤ b := hb; omega
          · exact hb.elim q2 q3
        · rcases hb with hb | hb
          · have hb' : w1.heap.size ≤ w.heap.size := hb; omega
          · rcases hb with hb | hb
            · have := hlC _ (.inl hb); omega
            · omega
      have nsh : ∀ b, C.fo b ∨ b = w.heap.size → (∀ b', C.fo b' → ¬ C.Sh b' ∨ True) → ¬ Xp.mine b := fun b h _ hm => nfo b hm h
      refine ⟨fun x => (by rw [hX3] at x; cases x), fun _ => ⟨hhid, w.heap.size :: rs, by rw [r1]; rfl, fun x => (by rw [hX2] at x; cases x), List.nodup_cons.2 ⟨fun hm => ?_, r3⟩, fun r' hr' => ?_⟩, ?_, fun b hb => ?_, fun b hb => ?_⟩
      · have := hc.frg.fin _ (r4 _ hm).2.2.1; omega
      · rcases List.mem_cons.1 hr' with rfl | hr'
        · refine ⟨?_, m0.size, .inr rfl, fun hs => ?_⟩
          · rw [hkW2 _ (by omega), mp.kept _ (show w.heap.size < w1.heap.size by omega) fun h => h.elim (fun h => by have := hlC _ (.inl h); omega) fun h => by omega]
            show w1.heap[w.heap.size]? = _
            rw [show w1.heap[w.heap.size]? = (w.alloc (.deferred (some []))).heap[w.heap.size]? from heap_alloc_ne (by simp)]
            exact heap_alloc_new _ _
          · have : Xp.Sh0 w.heap.size ∨ Xp.mine w.heap.size := hs.elim (mp.shFrom _) (hmi'.shFrom _)
            rcases this with h | h
            · have := hlC _ (.inr h); omega
            · exact nfo _ h (.inr rfl)
        · obtain ⟨k1, k2, k3, k4⟩ := r4 r' hr'
          refine ⟨(keepFo r' k3).trans k1, k2, .inl k3, fun hs => ?_⟩
          have : Xp.Sh0 r' ∨ Xp.mine r' := hs.elim (mp.shFrom _) (hmi'.shFrom _)
          rcases this with h | h
          · exact k4 h
          · exact nfo _ h (.inl k3)
      · refine FG.move hX2 hc.frg.gh (fun l s p hl _ => keepFo l hl) (fun _ h => .inl h) fun k k3 k4 hs => ?_
        have : Xp.Sh0 k ∨ Xp.mine k := hs.elim (mp.shFrom _) (hmi'.shFrom _)
        rcases this with h | h
        · exact k4 h
        · exact nfo _ h (.inl k3)
      · rw [hz2]
        have h' : w1.heap.size ≤ W'.heap.size := mp.size
        rcases hb with hb | rfl
        · have := hc.frg.fin b hb; omega
        · omega
      · rcases hb with ⟨g, base, q1, q2⟩ | ⟨id, q1⟩
        · exact nfo b (mp.ownMine g b base q1 q2)
        · rcases cfb id b q1 with ⟨_, h⟩ | ⟨_, h⟩
          · rintro (hfo | rfl)
            · exact hc.frg.out b (.inr ⟨id, h⟩) hfo
            · have := hlC _ (.inl (.inr ⟨id, h⟩)); omega
          · exact nfo b (mp.boxMine id b h)
    · replace hid : lkB (ids.zip bs2 ++ B) id = some cs := hid
      cases e : hasN ids id with
      | false =>
        rw [hlook B bs2 hb2l id e] at hid
        obtain ⟨b, c, e', lo, hi, k1, k2, k3, k4⟩ := hp.conc.boxes id cs hid
        have hb' := tP.box id b k1
        exact ⟨b, c, e', lo, hi, hb', (hkW2 b fun h => hp.ntl (.inr ⟨id, h ▸ k1⟩)).trans k2, k3, RepS.to tP cs _ k4⟩
      | true =>
        have hpos := posN_get e
        have hlt := (List.getElem?_eq_some_iff.1 hpos).1
        have hbs : bs'[posN ids id]? = some bs'[posN ids id] := List.getElem?_eq_getElem (by rw [h6.1]; exact hlt)
        have hcs : lkB (ids.zip bs2 ++ B) id = some (backL 0 ids bs'[posN ids id]) := by
          rw [lkB_append, y1 (posN ids id) id (backL 0 ids bs'[posN ids id]) hpos (by simp [bs2, hbs])]
        rw [hcs] at hid
        cases hid
        obtain ⟨b, c, e', lo, hi, k1, k2, k3, k4⟩ := hbx' _ _ hbs
        obtain ⟨b', hb'⟩ := hex _ hlt
        rw [show ids[posN ids id] = id by rw [List.getElem?_eq_getElem hlt] at hpos; exact Option.some.inj hpos] at hb'
        have hbb : b = b' := by
          have := hmi'.inB _ b' (hrn id b' e hb')
          have this : Ci'.box (1000000 + posN ids id) = some b' := this
          rw [k1] at this; exact Option.some.inj this
        subst hbb
        obtain ⟨q1, q2⟩ := h6.2 _ (List.mem_of_getElem? hbs)
        refine ⟨b, c, e', lo, hi, boxAll id b hb', (hkW2 b (lent id b e hb').2.2.1).trans k2, k3, ?_⟩
        exact RepS.backS (C := Ci') (C' := Cf) (w := W') (w' := W2) (n := ids.length) (fun b hb => ⟨.inr hb, hkW2 b fun h => hSM b hb (.inr h)⟩)
          (fun j b hj hb => by
            have hid' : ids[j]? = some ids[j] := List.getElem?_eq_getElem hj
            obtain ⟨b0, hb0⟩ := hex j hj
            have h1 : Ci'.box (1000000 + j) = some b0 := hmi'.inB _ b0 (cib' j _ b0 hid' hb0)
            have h2 : b = b0 := by rw [hb] at h1; exact Option.some.inj h1
            subst h2
            rw [List.getD_eq_getElem?_getD, hid', Option.getD_some]
            exact boxAll _ b hb0) _ _ q1 q2 k4
    · cases e : hasN ids id with
      | false =>
        rcases cfb id b hid with ⟨e', _⟩ | ⟨_, h⟩
        · rw [e] at e'; cases e'
        · have := hp.conc.boxSome id b h
          show (lkB (ids.zip bs2 ++ B) id).isSome = true
          rw [hlook B bs2 hb2l id e]
          exact this
      | true =>
        have hpos := posN_get e
        have hlt := (List.getElem?_eq_some_iff.1 hpos).1
        show (lkB (ids.zip bs2 ++ B) id).isSome = true
        rw [lkB_append, y1 _ id bs2[posN ids id] hpos (List.getElem?_eq_getElem (by rw [← hb2l]; exact hlt))]
        rfl
  cases hj : jumpOf e with
  | none =>
    cases stop with
    | true => have := (hp.ends rfl).1; rw [hj] at this; cases this
    | false =>
      obtain ⟨rfl, rfl⟩ := hp.go rfl
      have : done = ys := by rw [← hdt, hst rfl, List.append_nil]
      subst this
      exact ⟨_, Cf, hend hp.keys, hf⟩
  | some c =>
    cases stop with
    | false => obtain ⟨_, rfl⟩ := hp.go rfl; cases hj
    | true =>
      obtain ⟨q1, q2⟩ := hp.ends rfl
      have hQ := hjump e B q1 q2
      cases e with
      | ret => cases hj; exact wpIn_ret ⟨_, Cf, hQ, hf⟩
      | exit id => cases hj; exact wpIn_exit ⟨_, Cf, hQ, hf⟩
      | goto t => cases hj; exact wpIn_goto ⟨_, Cf, hQ, hf⟩
      | _ => cases hj
end Go.VS
namespace Go.VS
set_option linter.unusedVariables false
set_option linter.unusedSimpArgs false
set_option linter.unusedSectionVars false
open Go
variable {P : Program}
mutual
def mvA (ρ : Nat → Nat) : AV → AV
  | .ptr id off => .ptr (ρ id) off
  | .bsl id off len cap => .bsl (ρ id) off len cap
  | .agg cs => .agg (mvL ρ cs)
  | .tup cs => .tup (mvL ρ cs)
  | .fn f cs => .fn f (mvL ρ cs)
  | .hid v => .hid (mvA ρ v)
  | v => v
def mvL (ρ : Nat → Nat) : List AV → List AV
  | [] => []
  | c :: cs => mvA ρ c :: mvL ρ cs
end
mutual
theorem Rep.mv {w : World} {C C' : Ctx} {ρ : Nat → Nat} (hsh : C'.Sh = C.Sh) (hown : C'.own = C.own) (hbx : ∀ id b, C.box id = some b → C'.box (ρ id) = some b) : ∀ (a : AV) (v : Value), Rep w C a v → Rep w C' (mvA ρ a) v
  | .undef, _, _ => trivial
  | .ghost .., _, _ => trivial
  | .hid _, _, _ => trivial
  | .int .., _, h => h
  | .bool .., _, h => h
  | .str .., _, h => h
  | .sl none .., v, h => by simp only [mvA, Rep] at h ⊢; rw [hsh]; exact h
  | .sl (some (g, eo)) .., v, h => by simp only [mvA, Rep] at h ⊢; rw [hsh, hown]; exact h
  | .ptr id off, v, h => by
    obtain ⟨b, h1, h2⟩ := h
    exact ⟨b, hbx id b h1, h2⟩
  | .nilp, _, h => h
  | .eptr none .., _, h => by simp only [mvA, Rep] at h ⊢; rw [hsh]; exact h
  | .eptr (some (g, eo)) .., _, h => by simp only [mvA, Rep] at h ⊢; rw [hsh, hown]; exact h
  | .agg cs, v, h => by
    obtain ⟨vs, h1, h2⟩ := h
    exact ⟨vs, h1, RepS.mv hsh hown hbx cs vs h2⟩
  | .tup cs, v, h => by
    obtain ⟨vs, h1, h2⟩ := h
    exact ⟨vs, h1, RepSU.mv hsh hown hbx cs vs h2⟩
  | .fn f cs, v, h => by
    obtain ⟨vs, h1, h2⟩ := h
    exact ⟨vs, h1, RepS.mv hsh hown hbx cs vs h2⟩
  | .nilf, _, h => h
  | .yl _, _, h => h
  | .itp .., _, h => h
  | .bsl id off len cap, v, h => by
    obtain ⟨b, h1, h2⟩ := h
    exact ⟨b, hbx id b h1, h2⟩
theorem RepS.mv {w : World} {C C' : Ctx} {ρ : Nat → Nat} (hsh : C'.Sh = C.Sh) (hown : C'.own = C.own) (hbx : ∀ id b, C.box id = some b → C'.box (ρ id) = some b) : ∀ (l : List AV) (vs : List Value), RepS w C l vs → RepS w C' (mvL ρ l) vs
  | [], _, h => h
  | c :: cs, _, h => by
    obtain ⟨v, r, h1, h0, h2, h3⟩ := h
    exact ⟨v, r, h1, h0, Rep.mv hsh hown hbx c v h2, RepS.mv hsh hown hbx cs r h3⟩
theorem RepSU.mv {w : World} {C C' : Ctx} {ρ : Nat → Nat} (hsh : C'.Sh = C.Sh) (hown : C'.own = C.own) (hbx : ∀ id b, C.box id = some b → C'.box (ρ id) = some b) : ∀ (l : List AV) (vs : List Value), RepSU w C l vs → RepSU w C' (mvL ρ l) vs
  | [], _, h => h
  | c :: cs, _, h => by
    obtain ⟨v, r, h1, h2, h3⟩ := h
    exact ⟨v, r, h1, Rep.mv hsh hown hbx c v h2, RepSU.mv hsh hown hbx cs r h3⟩
end
/-- A variable's great number. -/
def gr (id : Nat) : Nat := if id < 1000000 then 1100000 + id else id
def reB (B : List (Nat × List AV)) : List (Nat × List AV) := B.map fun p => (gr p.1, mvL gr p.2)
theorem gr_inj {i j : Nat} (hi : i < 1100000) (hj : j < 1100000) (h : gr i = gr j) : i = j := by
  unfold gr at h
  split at h <;> split at h <;> omega
theorem lkB_reB : ∀ {B : List (Nat × List AV)}, (∀ p ∈ B, p.1 < 1100000) → ∀ {k : Nat}, k < 1100000 → lkB (reB B) (gr k) = (lkB B k).map (mvL gr)
  | [], _, _, _ => rfl
  | (k', v) :: B, hB, k, hk => by
    show (if gr k = gr k' then some (mvL gr v) else lkB (reB B) (gr k)) = _
    have hk' := hB (k', v) (by simp)
    simp only [lkB]
    by_cases e : k = k'
    · subst e; simp
    · rw [if_neg fun h => e (gr_inj hk hk' h), if_neg e]
      exact lkB_reB (fun p hp => hB p (by simp [hp])) hk
theorem lkB_reB_some : ∀ {B : List (Nat × List AV)} {id : Nat} {cs : List AV}, lkB (reB B) id = some cs → ∃ p ∈ B, id = gr p.1
  | [], _, _, h => by cases h
  | (k, v) :: B, id, cs, h => by
    replace h : (if id = gr k then some (mvL gr v) else lkB (reB B) id) = some cs := h
    split at h
    · exact ⟨(k, v), by simp, by assumption⟩
    · obtain ⟨p, hp, e⟩ := lkB_reB_some h
      exact ⟨p, by simp [hp], e⟩
theorem mvA_hid (ρ : Nat → Nat) : ∀ v, isHid v = false → isHid (mvA ρ v) = false := by
  intro v h
  cases v <;> first | rfl | cases h
theorem mvA_gh (ρ : Nat → Nat) : ∀ v l s d t, mvA ρ v = .ghost l s d t → v = .ghost l s d t := by
  intro v l s d t h
  cases v <;> first | exact h | (simp only [mvA] at h; cases h)
theorem mvA_si (ρ : Nat → Nat) : ∀ v b p, mvA ρ v = .itp b p → v = .itp b p := by
  intro v b p h
  cases v <;> first | exact h | (simp only [mvA] at h; cases h)
theorem Conc.rebox {X : Ent} {L : List (Nat × AV)} {B : List (Nat × List AV)} {c f : Stamp → Bool} {m : Nat → Bool} {r : Nat → Option Stamp} {C : Ctx} {a : Act} {w : World} (hc : Conc X ⟨lk L, lkB B, c, f, m, r⟩ C a w)
    (hB : ∀ p ∈ B, p.1 < 1100000) : ∃ C', Conc X ⟨lk (mapK (mvA gr) L), lkB (reB B), c, f, m, r⟩ C' a w := by
  have mm := hc.mem
  let C' : Ctx := { C with box := fun id => if id < 1000000 then none else if id < 1100000 then C.box id else if id < 2100000 then C.box (id - 1100000) else none }
  have hkey : ∀ id b, C.box id = some b → id < 1100000 := fun id b hb => by
    obtain ⟨cs, hcs⟩ := Option.isSome_iff_exists.1 (hc.boxSome id b hb)
    exact hB _ (lkB_mem hcs)
  have hto : ∀ id b, C.box id = some b → C'.box (gr id) = some b := fun id b hb => by
    have := hkey id b hb
    show (if gr id < 1000000 then none else if gr id < 1100000 then C.box (gr id) else if gr id < 2100000 then C.box (gr id - 1100000) else none) = some b
    unfold gr
    split
    · rename_i e
      rw [if_neg (by omega), if_neg (by omega), if_pos (by omega), show 1100000 + id - 1100000 = id by omega]; exact hb
    · exact hb
  have hfrom : ∀ id b, C'.box id = some b → ∃ k, gr k = id ∧ C.box k = some b := fun id b hb => by
    replace hb : (if id < 1000000 then none else if id < 1100000 then C.box id else if id < 2100000 then C.box (id - 1100000) else none) = some b := hb
    split at hb
    · cases hb
    · split at hb
      · rename_i e1 e2
        exact ⟨id, by unfold gr; rw [if_neg e1], hb⟩
      · split at hb
        · rename_i e1 e2 e3
          have := hkey _ b hb
          exact ⟨id - 1100000, by unfold gr; rw [if_pos (by omega)]; omega, hb⟩
        · cases hb
  refine ⟨C', { n := hc.n, slots := fun t => ?_, frg := ?_, boxes := fun id cs hid => ?_, boxSome := fun id b hb => ?_, mem := ?_, cons := hc.cons, made := hc.made, tg := hc.tg, tgInj := hc.tgInj, tgMade := hc.tgMade }⟩
  · show Rep w C' (lk (mapK (mvA gr) L) t) _
    rw [lk_mapK _ rfl]
    exact Rep.mv (C := C) (C' := C') rfl rfl hto _ _ (hc.slots t)
  · show Frg X (lk (mapK (mvA gr) L) X.n) f C' a.defers w
    rw [lk_mapK _ rfl]
    refine hc.frg.go (.map (fun a u hr => Rep.mv (C := C) (C' := C') rfl rfl hto a u hr) (mvA_hid _) (mvA_gh _) (mvA_si _) (fun _ => rfl) rfl (fun _ _ => ⟨_, rfl⟩)) rfl (fun b hb => ?_) (fun _ hb => .inl hb) (fun _ _ _ => rfl) (Nat.le_refl _) rfl rfl rfl
    rcases hb with hb | ⟨id, hb⟩
    · exact .inl (.inl hb)
    · obtain ⟨k, _, hk⟩ := hfrom id b hb
      exact .inl (.inr ⟨k, hk⟩)
  · replace hid : lkB (reB B) id = some cs := hid
    obtain ⟨p, hp, e⟩ := lkB_reB_some hid
    subst e
    rw [lkB_reB hB (hB p hp)] at hid
    obtain ⟨cs0, h0, rfl⟩ := Option.map_eq_some_iff.1 hid
    obtain ⟨b, c', e', lo, hi, h1, h2, h3, h4⟩ := hc.boxes _ cs0 h0
    exact ⟨b, c', e', lo, hi, hto _ b h1, h2, h3, RepS.mv (C := C) (C' := C') rfl rfl hto cs0 _ h4⟩
  · obtain ⟨k, e, hk⟩ := hfrom id b hb
    subst e
    obtain ⟨cs, hcs⟩ := Option.isSome_iff_exists.1 (hc.boxSome k b hk)
    have hcs : lkB B k = some cs := hcs
    show (lkB (reB B) (gr k)).isSome = true
    rw [lkB_reB hB (hkey k b hk), hcs]; rfl
  · exact { shIn := mm.shIn, shFrom := mm.shFrom, shOld := mm.shOld, ownIn := mm.ownIn, ownOne := mm.ownOne,
            ownBox := fun g b base id hg hf hb => by obtain ⟨k, _, hk⟩ := hfrom id b hb; exact mm.ownBox g b base k hg hf hk,
            ownSh := mm.ownSh, ownFrz := mm.ownFrz, ownMine := mm.ownMine,
            boxIn := fun id b hb => by obtain ⟨k, _, hk⟩ := hfrom id b hb; exact mm.boxIn k b hk,
            boxOne := fun id id' b h1 h2 => by
              obtain ⟨k, e, hk⟩ := hfrom id b h1
              obtain ⟨k', e', hk'⟩ := hfrom id' b h2
              have := mm.boxOne k k' b hk hk'
              subst this; rw [← e, ← e'],
            boxSh := fun id b hb => by obtain ⟨k, _, hk⟩ := hfrom id b hb; exact mm.boxSh k b hk,
            boxMine := fun id b hb => by obtain ⟨k, _, hk⟩ := hfrom id b hb; exact mm.boxMine k b hk,
            kept := mm.kept, size := mm.size, os := mm.os, tape := mm.tape, output := mm.output,
            inB := fun id b hb => by
              have h1 := X.inBig id b hb
              have h2 := mm.inB id b hb
              have := hto id b h2
              unfold gr at this
              rw [if_neg (by omega)] at this
              exact this }
/-- From here on variables bear great numbers: they stay as long as the walk goes on. -/
theorem AWP.rebox {X : Ent} {cd : Code} {Q : Exit → St → Prop} {L : List (Nat × AV)} {B : List (Nat × List AV)} {c f : Stamp → Bool} {m : Nat → Bool} {r : Nat → Option Stamp}
    (hB : (B.all fun p => decide (p.1 < 1100000)) = true) (h : AWP P X cd Q ⟨lk (mapK (mvA gr) L), lkB (reB B), c, f, m, r⟩) : AWP P X cd Q ⟨lk L, lkB B, c, f, m, r⟩ :=
  AWP.weaken h fun _ _ _ hc => hc.rebox fun p hp => by simpa using List.all_eq_true.1 hB p hp
end Go.VS
namespace Go.VS
open Go
variable {P : Program}
theorem map_split {α : Type} {F : α → AV} : ∀ {zs : List α} {done : List AV} {y : AV} {todo : List AV}, zs.map F = done ++ y :: todo → ∃ zs1 z zs2, zs = zs1 ++ z :: zs2 ∧ done = zs1.map F ∧ y = F z ∧ todo = zs2.map F
  | [], done, y, todo, h => by simp at h
  | z :: zs, [], y, todo, h => by
    simp only [List.map_cons, List.nil_append, List.cons.injEq] at h
    exact ⟨[], z, zs, rfl, rfl, h.1.symm, h.2.symm⟩
  | z :: zs, d :: done, y, todo, h => by
    simp only [List.map_cons, List.cons_append, List.cons.injEq] at h
    obtain ⟨zs1, z', zs2, h1, h2, h3, h4⟩ := map_split h.2
    exact ⟨z :: zs1, z', zs2, by rw [h1]; rfl, by rw [h2, ← h.1]; rfl, h3, h4⟩
/-- What a round leaves, while H stands. -/
def roundT (ids ds : List Nat) (h : Bool) (B : List (Nat × List AV)) (QX : Exit → List (Nat × List AV) → Prop) (e : Exit) (s : St) : Prop :=
  ∃ B', VS.slim [] ds s = stOf [] B' ∧ okKeys ids B' = true ∧ ((e = .normal ∧ h = true ∧ B' = B) ∨ ((jumpOf e).isSome = true ∧ QX e B'))
theorem AWP.rangeT {α : Type} {X : Ent} {g : Operand} {ps : Array Tmp} {assign body : Code} {Q : Exit → St → Prop} (enc : α → List AV) (zs : List α) (H : List α → Bool) (ids : List Nat) (css : List (List AV)) (L : List (Nat × AV)) (Bf : List α → List (Nat × List AV)) (ks ds : List Nat)
    (QX : Exit → List (Nat × List AV) → Prop) {f : FuncId} {cap : List AV} {bs' : List (List AV)} (hX : X.round = none ∧ X.it = false ∧ X.dm = false)
    (hit : IterB P f (cap.map (rnB 4 [] ids)) (css.map (rnBL 4 [] ids)) (zs.map fun z => .tup (enc z)) bs')
    (hg : (stOf L (ids.zip css ++ Bf [])).ev P 0 g = .fn f cap) (hok : callOk P f = true)
    (h1 : (ids.length = css.length ∧ nodupN ids = true) ∧ (∀ k ∈ ids, 1000000 ≤ k) ∧ (okBL ids cap = true ∧ stAL cap = []) ∧ (∀ cs ∈ css, okBL ids cs = true ∧ stAL cs = []))
    (h2 : (∀ p ∈ L, stab [] p.2 = true) ∧ (∀ k ∈ ks, k < X.n ∧ stab ids (lk L k) = true) ∧ plainS (lk L X.n) = true)
    (h3 : okKeys ids (Bf []) = true ∧ ∀ p ∈ Bf [], noIdL ids p.2 = true) (h0 : H [] = true)
    (h4 : nodupN ps.toList = true ∧ (∀ p ∈ ps.toList, p < X.n)) (h5 : ∀ z, (enc z).length = ps.size)
    (h6 : bs'.length = ids.length ∧ ∀ cs ∈ bs', okBL (bxIds 1000000 ids.length) cs = true ∧ stabL [] cs = true)
    (round : ∀ zs1 z zs2, zs = zs1 ++ z :: zs2 → H zs1 = true → ∀ X' : Ent, X'.n = X.n → AWP P X' assign (fun e s => e = .normal ∧ plainS (s.s X.n) = true ∧ ∀ X'' : Ent, X''.n = X.n → AWP P X'' body (roundT ids ds (H (zs1 ++ [z])) (Bf (zs1 ++ [z])) QX) s) (stOf (ps.toList.zip (enc z) ++ selL L ks) (Bf zs1)))
    (hend : H zs = true → Q .normal (stOf L (ids.zip (bs'.map (backL 0 ids)) ++ Bf zs)))
    (hjump : ∀ e B, (jumpOf e).isSome = true → QX e B → Q e (stOf L (ids.zip (bs'.map (backL 0 ids)) ++ B))) :
    AWP P X (.rangeFunc g ps assign body) Q (stOf L (ids.zip css ++ Bf [])) := by
  let Bg : List AV → List (Nat × List AV) := fun done => if H (zs.take done.length) = true then Bf (zs.take done.length) else [(0, [])]
  have hB0 : Bg [] = Bf [] := by
    show (if H (zs.take 0) = true then Bf (zs.take 0) else [(0, [])]) = _
    rw [List.take_zero, if_pos h0]
  have hkey : ∀ done, okKeys ids (Bg done) = true → H (zs.take done.length) = true := fun done hk => by
    replace hk : okKeys ids (if H (zs.take done.length) = true then Bf (zs.take done.length) else [(0, [])]) = true := hk
    split at hk
    · assumption
    · simp [okKeys] at hk
  have key := AWP.range (P := P) (X := X) (g := g) (ps := ps) (assign := assign) (body := body) (Q := Q) ids css L Bg ks ds QX (f := f) (cap := cap) hX (by rw [hB0]; exact hg) hok hit h1 h2 (by rw [hB0]; exact h3) h4 (fun y hy => by
    obtain ⟨z, _, rfl⟩ := List.mem_map.1 hy
    exact ⟨_, rfl, h5 z⟩) h6 (fun done as todo hd hk X' hX' => by
    obtain ⟨zs1, z, zs2, e1, e2, e3, e4⟩ := map_split hd
    cases e3
    have t1 : zs.take done.length = zs1 := by rw [e1, e2, List.length_map, List.take_left]
    have t2 : zs.take (done ++ [AV.tup (enc z)]).length = zs1 ++ [z] := by
      rw [e1, e2, List.length_append, List.length_map, List.length_singleton, List.take_length_add_append]
      simp
    have hk1 := hkey done hk
    rw [t1] at hk1
    have b1 : Bg done = Bf zs1 := by
      show (if H (zs.take done.length) = true then Bf (zs.take done.length) else [(0, [])]) = _
      rw [t1, if_pos hk1]
    have b2 : Bg (done ++ [AV.tup (enc z)]) = if H (zs1 ++ [z]) = true then Bf (zs1 ++ [z]) else [(0, [])] := by
      show (if H (zs.take (done ++ [AV.tup (enc z)]).length) = true then Bf (zs.take (done ++ [AV.tup (enc z)]).length) else [(0, [])]) = _
      rw [t2]
    rw [b1]
    refine AWP.mono (round zs1 z zs2 e1 hk1 X' hX') ?_
    rintro e s ⟨q1, q2, q3⟩
    refine ⟨q1, q2, fun X'' hX'' => AWP.mono (q3 X'' hX'') ?_⟩
    rintro e s ⟨B', r1, r2, r3⟩
    refine ⟨B', r1, r2, r3.imp (fun ⟨r4, r5, r6⟩ => ⟨r4, ?_⟩) id⟩
    rw [b2, if_pos r5]; exact r6) (fun hk => by
    have hk1 := hkey _ hk
    have : zs.take (zs.map fun z => AV.tup (enc z)).length = zs := by rw [List.length_map, List.take_length]
    have b1 : Bg (zs.map fun z => AV.tup (enc z)) = Bf zs := by
      show (if H (zs.take (zs.map fun z => AV.tup (enc z)).length) = true then Bf (zs.take (zs.map fun z => AV.tup (enc z)).length) else [(0, [])]) = _
      rw [if_pos hk1, this]
    rw [b1]
    rw [this] at hk1
    exact hend hk1) hjump
  rw [hB0] at key
  exact key
theorem yieldP_mk {n : Nat} {st : St} {d : Option Nat} {l : Nat} {as ys : List AV} {K : St → Prop} (done todo : List AV) (hf : as.map froz = ys) (hg : st.s n = .ghost l false done (.tup ys :: todo)) (ha : argsOk st as = true) (hd : St.fits n d = true)
    (hk : ∀ b : Bool, K (({ st.freezeL (as.flatMap stampsOf) with s := upd (st.freezeL (as.flatMap stampsOf)).s n (.ghost l (!b) (done ++ [.tup ys]) todo) } : St).putO d (.bool b))) : yieldP n st d l as K := by
  subst hf
  exact ⟨done, todo, hg, ha, hd, hk⟩
theorem entryI22 (n l : Nat) (a b : AV) (c d : List AV) (ys : List AV) : entryI n l [a, b] [c, d] ys = ⟨lk [(n, .ghost l false [] ys), (0, .yl l), (1, a), (2, b)], lkB [(1000000, c), (1000001, d)], hasS [], hasS [], hasN [], lkR []⟩ := by
  unfold entryI
  rw [entryB_mk [.yl l, a, b] [c, d] [(0, .yl l), (1, a), (2, b)] [(1000000, c), (1000001, d)] (slots3 _ _ _) (boxes2 _ _)]
  rfl
theorem leaves1_two {st : St} {cs ds : List AV} (h : st.bx 1000000 = some cs) (hd : st.bx 1000001 = some ds) {cs' ds' : List AV} (h' : cs' = cs ∨ cs' = cs.map fun _ => .undef) (hd' : ds' = ds ∨ ds' = ds.map fun _ => .undef) : leaves1 st [cs', ds'] := fun i c hc => by
  match i with
  | 0 => simp at hc; subst hc; exact ⟨cs, h, h'⟩
  | 1 => simp at hc; subst hc; exact ⟨ds, hd, hd'⟩
  | i + 2 => simp at hc
/-- Variables in another order. -/
def pickB (ks : List Nat) (B : List (Nat × List AV)) : List (Nat × List AV) := ks.map fun k => (k, (lkB B k).getD [])
theorem lkB_pick (B : List (Nat × List AV)) : ∀ (ks : List Nat), ks.all (fun k => (lkB B k).isSome) = true → ∀ k, lkB (pickB ks B) k = if ks.contains k = true then lkB B k else none
  | [], _, k => rfl
  | k' :: ks, h, k => by
    simp only [List.all_cons, Bool.and_eq_true] at h
    show (if k = k' then some ((lkB B k').getD []) else lkB (pickB ks B) k) = _
    by_cases e : k = k'
    · subst e
      obtain ⟨v, hv⟩ := Option.isSome_iff_exists.1 h.1
      rw [if_pos rfl, if_pos (by simp), hv]; rfl
    · rw [if_neg e, lkB_pick B ks h.2 k]
      have e' : (k == k') = false := by simpa using e
      simp only [List.contains_cons, e', Bool.false_or]
theorem lkB_notin : ∀ {B : List (Nat × List AV)} {k : Nat}, (∀ p ∈ B, p.1 ≠ k) → lkB B k = none
  | [], _, _ => rfl
  | (k', v) :: B, k, h => by
    show (if k = k' then some v else lkB B k) = none
    rw [if_neg fun e => h (k', v) (by simp) e.symm]
    exact lkB_notin fun p hp => h p (by simp [hp])
theorem AWP.order {X : Ent} {cd : Code} {Q : Exit → St → Prop} {s : Nat → AV} {B : List (Nat × List AV)} {c f : Stamp → Bool} {m : Nat → Bool} {r : Nat → Option Stamp} (ks : List Nat)
    (h1 : ks.all (fun k => (lkB B k).isSome) = true) (h2 : B.all (fun p => ks.contains p.1) = true) (h : AWP P X cd Q ⟨s, lkB (pickB ks B), c, f, m, r⟩) : AWP P X cd Q ⟨s, lkB B, c, f, m, r⟩ := by
  have : lkB (pickB ks B) = lkB B := by
    funext k
    rw [lkB_pick B ks h1 k]
    split
    · rfl
    · rename_i e
      refine (lkB_notin fun p hp e' => e ?_).symm
      rw [← e']; exact List.all_eq_true.1 h2 p hp
  rw [this] at h
  exact h
end Go.VS
namespace Go.VS
open Go
attribute [go_sem] pickB stOf selL mvA mvL gr
theorem reB_nil : reB [] = [] := rfl
theorem reB_cons (k : Nat) (v : List AV) (B : List (Nat × List AV)) : reB ((k, v) :: B) = (gr k, mvL gr v) :: reB B := rfl
attribute [go_sem] reB_nil reB_cons
theorem zipA_cons {β : Type} (k : Nat) (v : β) (ks : List Nat) (vs : List β) (L : List (Nat × β)) : (k :: ks).zip (v :: vs) ++ L = (k, v) :: (ks.zip vs ++ L) := rfl
theorem zipA_nil {β : Type} (vs : List β) (L : List (Nat × β)) : ([] : List Nat).zip vs ++ L = L := rfl
attribute [go_sem] zipA_cons zipA_nil
variable {P : Program}
theorem CallsP.introRF {f : FuncId} {fn : Func} {c : Code} {args : List AV} {r : AV} (hf : P.funcs[f]? = some fn) (hb : fn.body = some c) (hn : args.length ≤ fn.ntmps)
    (h : ∀ X : Ent, X.n = fn.ntmps → X.round = none ∧ X.it = false ∧ X.dm = false → AWP P X c (retSF P fn.results.toList 0 r []) (entryB args [])) : CallsP P f args r :=
  (CallsB.introRF hf hb hn h).toP
end Go.VS
