/- Part of a framework that states what Go functions answer on values as data; it holds for every program of the model. -/
import Derived.Test.YtfemncfhiihckaaDoorVsLent3
import Derived.Laws.CopyRow
import Derived.Lib.TrimU
import Derived.Lib.MapLaws
import Derived.Test.YtfemncfhiihckaaDoorVsLoop3
namespace Go.VS
set_option linter.unusedVariables false
set_option linter.unusedSimpArgs false
set_option linter.unusedSectionVars false
open Go
variable {P : Program}
/-- Bytes of a row, one cell each. -/
theorem row_repL {w : World} {Sh : Nat → Prop} : ∀ {l : List AV} {vs : List Value}, (bytesOf l).isSome = true → RepRow w Sh 1 l vs → RepL w Sh l vs
  | [], _, _, h => h
  | a :: l, _, hb, h => by
    obtain ⟨v, r, rfl, h1, h0, h2, h3⟩ := h
    simp only [bytesOf] at hb
    cases ha : byteOf a with
    | none => rw [ha] at hb; simp at hb
    | some c =>
      rw [ha] at hb
      have hb' : (bytesOf l).isSome = true := by
        cases e : bytesOf l with
        | none => rw [e] at hb; simp at hb
        | some _ => rfl
      unfold byteOf at ha
      split at ha <;> cases ha
      rename_i n
      simp only [RepF] at h2
      subst h2
      exact ⟨.int .u8 n, r, by simp [Value.cells], rfl, rfl, row_repL hb' h3⟩
theorem bytesOf_take : ∀ {l : List AV} {n : Nat}, (bytesOf l).isSome = true → (bytesOf (l.take n)).isSome = true
  | [], n, h => by simpa using h
  | a :: l, 0, h => rfl
  | a :: l, n + 1, h => by
    simp only [bytesOf, List.take_succ_cons] at h ⊢
    cases ha : byteOf a with
    | none => rw [ha] at h; simp at h
    | some c =>
      rw [ha] at h
      have hb' : (bytesOf l).isSome = true := by
        cases e : bytesOf l with
        | none => rw [e] at h; simp at h
        | some _ => rfl
      have := bytesOf_take (n := n) hb'
      cases e : bytesOf (l.take n) with
      | none => rw [e] at this; cases this
      | some _ => rfl
def copyOp (P : Program) (st : St) (o : Oper) : Option St :=
  match o.op with
  | .call c =>
    match c.callee, c.args.toList, c.argTypes.toList with
    | .builtin .copy, [s, x], [ts, tx] =>
      match P.underlying ts, st.ev P ts s, st.ev P tx x with
      | some (.slice E), .bsl id off len _, .sl q nb sz l =>
        (st.bx id).bind fun cs =>
          need (P.cellsOf E = 1 ∧ (P.info? E).isSome = true ∧ sz = 1 ∧ st.alive q = true ∧ off + len ≤ cs.length ∧ (bytesOf l).isSome = true)
            (some (({ st with bx := upd st.bx id (some (putAt cs off (l.take len))) } : St).putO o.dst (.int .i64 ((min l.length len : Nat) : Int))))
      | _, _, _ => none
    | _, _, _ => none
  | _ => none
theorem step_copy {X : Ent} {st st' : St} {o : Oper} (h : copyOp P st o = some st') (hd : St.fits X.n o.dst = true) : OpStep P X st o st' :=
  OpStep.value fun C a w hc => by
    unfold copyOp at h
    split at h
    · rename_i c ho
      split at h
      · rename_i s x ts tx hcal hargs htys
        split at h
        · rename_i E id off len cap q nb sz l hT hs hx
          obtain ⟨cs, hcs, h1⟩ := Option.bind_eq_some_iff.1 h
          obtain ⟨⟨hE1, hI, hsz, hal, hfit, hby⟩, h2⟩ := need_some h1
          cases h2
          subst hsz
          have hargs' : c.args = #[s, x] := by apply Array.ext'; simpa using hargs
          have htys' : c.argTypes = #[ts, tx] := by apply Array.ext'; simpa using htys
          have hexec : ∀ {u w'}, (Builtin.copy_ #[ts, tx] o.type #[a.eval s, a.eval x]).run P w = .ok u w' → (execOp a.eval o).run P w = .ok (.value u) w' := by
            intro u w' hu
            simp [execOp, ho, resolve, hcal, invoke, builtin, hargs', htys', hu]
          have hsr := hc.ev P ts s
          rw [hs] at hsr
          obtain ⟨b, hb, hsv, _⟩ := hsr
          have hxr := hc.ev P tx x
          rw [hx] at hxr
          obtain ⟨i, hi⟩ := Option.isSome_iff_exists.1 hI
          have hi1 : i.size = 1 := by have := hE1; simp only [Program.cellsOf, hi] at this; simpa using this
          obtain ⟨b', c0, e, lo, hh, g1, g2, g3, g4⟩ := hc.boxes _ _ hcs
          obtain rfl : b = b' := by rw [hb] at g1; exact Option.some.inj g1
          have hlen0 := g4.length
          rw [Array.length_toList] at hlen0
          rcases rep_sl_read hc.cons hxr hal with ⟨_, rfl, hu⟩ | ⟨_, b2, off2, cap2, vs, sp, hu, hlc, hsp, hcell, hrow⟩
          · have e0 : putAt cs off (([] : List AV).take len) = cs := by simp [putAt]
            have e1 : ({ st with bx := upd st.bx id (some (putAt cs off (([] : List AV).take len))) } : St) = st := by
              rw [e0]
              have : upd st.bx id (some cs) = st.bx := by
                funext t
                simp only [upd]
                split
                · rename_i ht; rw [ht, hcs]
                · rfl
              rw [this]
            rw [e1]
            refine ⟨goInt 0, w, C, hexec ?_, hc.putO hd (by simp [Rep, goInt])⟩
            rw [hsv, hu, run_copy_nil P w ts tx o.type E ⟨b, off, none⟩ len cap hT (by rw [hi]; rfl)]
          · have hn : Nat.min l.length len = (vs.take len).length := by
              have := hrow.length
              show min l.length len = _
              rw [List.length_take]; omega
            have hrl := row_repL (bytesOf_take (n := len) hby) (by simpa using hrow.take len)
            have hrs : RepS w C (l.take len) (vs.take len) := RepS.of_shared _ _ hrl
            have hl := run_loadCells_list (P := P) w ⟨b2, off2, sp⟩ (vs.take len) (fun j v hj => by
              have hj' : vs[j]? = some v := by
                rw [List.getElem?_take] at hj
                split at hj
                · exact hj
                · cases hj
              rcases hsp with hsp | rfl
              · rw [hsp] at hj'; simp at hj'
              · rw [Addr.add_mid]; exact hcell j v hj')
            have hvl : (vs.take len).length ≤ len := by rw [List.length_take]; omega
            have hll : (l.take len).length = (vs.take len).length := by rw [List.length_take, ← hn]; show _ = min l.length len; omega
            generalize vs.take len = ns at hn hrl hrs hl hvl hll
            have hst := run_storeCells_cells (P := P) b off ns 0 w
              (fun j hj => by simp only [World.cell?, g2]; simp; omega)
              (fun j hj => by have := g3 (off + 0 + j) (by omega); simp only [World.frozen?, g2]; simp; omega) hrs.one
            simp only [Nat.add_zero] at hst
            refine ⟨goInt ns.length, w.setCells b off ns, C, hexec ?_, ?_⟩
            · rw [hsv, hu]
              have hn' := hn.symm
              simp [Builtin.copy_, run_underlying hT, Builtin.lenOf, Builtin.firstCells, sizeOf, typeInfo, hi, hi1, ← hn', hl, hst]
            · refine (hc.boxSet hcs hb hrs ?_ (hc.boxNoOwn hb)).putO hd ?_
              · omega
              · simp only [Rep, goInt, ← hn]
        · cases h
      · cases h
    · cases h
def appB (P : Program) (st : St) (o : Oper) : Option St :=
  match o.op, o.dst with
  | .call c, some d =>
    match c.callee, c.args.toList, c.argTypes.toList with
    | .builtin .append, [s, x], [ts, tx] =>
      match P.underlying ts, st.ev P ts s with
      | some (.slice E), .bsl id off len cap =>
        (st.bx id).bind fun cs => (srcAll P st tx E (st.ev P tx x)).bind fun l' =>
          need (P.rowOk E = true ∧ P.cellsOf E = 1 ∧ off + len ≤ cs.length ∧ cap < len + l'.length ∧ (bytesOf ((cs.drop off).take len)).isSome = true ∧
              (len + l'.length) * P.bytesOf E ≤ 140737488355328 ∧ len + l'.length ≤ 9223372036854775807 ∧ st.canNew d = true)
            (some ((st.mkNew d).put d (.sl (some ((1, d), 0)) false 1 ((cs.drop off).take len ++ l'))))
      | _, _ => none
    | _, _, _ => none
  | _, _ => none
theorem bytesF {w : World} {C : Ctx} : ∀ {l : List AV} {vs : List Value}, (bytesOf l).isSome = true → RepS w C l vs → RepL w C.Sh l vs
  | [], _, _, h => h
  | a :: l, _, hb, h => by
    obtain ⟨v, r, rfl, h1, h2, h3⟩ := h
    simp only [bytesOf] at hb
    cases ha : byteOf a with
    | none => rw [ha] at hb; simp at hb
    | some c =>
      rw [ha] at hb
      have hb' : (bytesOf l).isSome = true := by
        cases e : bytesOf l with
        | none => rw [e] at hb; simp at hb
        | some _ => rfl
      unfold byteOf at ha
      split at ha <;> cases ha
      exact ⟨v, r, rfl, h1, h2, bytesF hb' h3⟩
theorem step_appB {X : Ent} {st st' : St} {o : Oper} (h : appB P st o = some st') (hd : St.fits X.n o.dst = true) : OpStep P X st o st' :=
  OpStep.value fun C a w hc => by
    unfold appB at h
    split at h
    · rename_i c d ho hdst
      split at h
      · rename_i s x ts tx hcal hargs htys
        split at h
        · rename_i E id off len cap hT hs
          obtain ⟨cs, hcs, h0⟩ := Option.bind_eq_some_iff.1 h
          obtain ⟨l', hl', h1⟩ := Option.bind_eq_some_iff.1 h0
          obtain ⟨⟨hE, hE1, hfit, hgrow, hby, hsz, h63, hnew⟩, h2⟩ := need_some h1
          cases h2
          have hn : d < X.n := by rw [hdst] at hd; simpa [St.fits] using hd
          have hargs' : c.args = #[s, x] := by apply Array.ext'; simpa using hargs
          have htys' : c.argTypes = #[ts, tx] := by apply Array.ext'; simpa using htys
          have hexec : ∀ {u w'}, (Builtin.append_ #[ts, tx] o.type #[a.eval s, a.eval x]).run P w = .ok u w' → (execOp a.eval o).run P w = .ok (.value u) w' := by
            intro u w' hu
            simp [execOp, ho, resolve, hcal, invoke, builtin, hargs', htys', hu]
          have hsr := hc.ev P ts s
          rw [hs] at hsr
          obtain ⟨b, hb, hsv, hlcap⟩ := hsr
          have hxr := hc.ev P tx x
          obtain ⟨news, hsrc, hrow⟩ := srcAll_ok hc hl' hxr
          obtain ⟨b', vs, hb', hat, hrs⟩ := RepS_of_box (hc.boxes _ _ hcs)
          obtain rfl : b = b' := by rw [hb] at hb'; exact Option.some.inj hb'
          obtain ⟨i, z, hi, hz, hzs, hisz, hbz⟩ := rowOk_of hE
          have hi1 : i.size = 1 := by rw [hisz, hE1]
          have hcut : RepS w C ((cs.drop off).take len) ((vs.drop off).take len) := (hrs.drop off).take len
          have hF := bytesF hby hcut
          have hrow0 := RepRow.of_one hF
          have hvl := hrs.length
          have hl1 : ((vs.drop off).take len).length = len := by simp; omega
          have hl2 : ((cs.drop off).take len).length = len := by simp; omega
          have hlo := run_loadCells_list (P := P) w.drew ⟨b, off, none⟩ ((vs.drop off).take len) (fun j v hj => by
            rw [Addr.add_mid]
            have := ((hat.drop off).take len) j v hj
            rw [Nat.zero_add] at this
            exact (show w.drew.cell? ⟨b, off + j, none⟩ = some v by simpa using this))
          rw [hl1] at hlo
          have hold : (Builtin.firstCells i.size len (.slice (some ⟨b, off, none⟩) len cap)).run P w.drew = .ok ((vs.drop off).take len).toArray w.drew := by
            rw [hi1]
            simpa [Builtin.firstCells] using hlo
          have hrun := run_append_grow_g w ts tx o.type E i z hT hi hz (some ⟨b, off, none⟩) len cap _ hold (a.eval x) l'.length news (by rw [hisz]; exact hsrc) hgrow (by omega)
            (by rw [hbz]; exact growslice_fits (by omega) (by simpa using hsz))
          have hcap : len + l'.length ≤ grownCap w (len + l'.length) cap E := by
            simp only [grownCap, Question.cut]; omega
          generalize grownCap w (len + l'.length) cap E = cp at hrun hcap
          generalize hobj : ((((vs.drop off).take len) ++ news).toArray ++ Builtin.zeroCells z.cells (cp - (len + l'.length))) = obj at hrun
          obtain ⟨C2, hc2, t2, ho2, hsh2⟩ := hc.newBlockG (w' := w.drew.alloc (.cells obj E)) hnew (by simp) (fun k hk => by
            have h1 : w.heap.size ≠ k := by omega
            simp [World.alloc, World.drew, -World.alloc_eq, -World.drew_eq, Array.getElem?_push, Ne.symm h1]) rfl rfl rfl
          have hatn : (w.drew.alloc (.cells obj E)).heap[w.heap.size]? = some (.cells obj E) := by
            simp [World.alloc, World.drew, -World.alloc_eq, -World.drew_eq]
          rw [hE1] at hrow
          have hrowA := (hrow0.append hrow).keep (fun k hk => t2.sh k hk) 1
          have hnl : news.length = l'.length := by have := hrow.length; simpa using this
          refine ⟨.slice (some ⟨w.heap.size, 0, none⟩) (len + l'.length) cp, w.drew.alloc (.cells obj E), C2, hexec (by rw [hsv]; exact hrun), ?_⟩
          rw [hdst]
          have hLen : ((cs.drop off).take len ++ l').length = len + l'.length := by rw [List.length_append, hl2]
          have hVen : (((vs.drop off).take len) ++ news).length = len + l'.length := by rw [List.length_append, hl1, hnl]
          have hzl : (Builtin.zeroCells z.cells (cp - (len + l'.length))).size = cp - (len + l'.length) := by
            have := size_zeroCells z.cells (cp - (len + l'.length))
            rw [this, hzs, hi1, Nat.mul_one]
          refine hc2.put hn (.inr (.inr ⟨rfl, w.heap.size, 0, 0, cp, _, ho2, .inl (by simp), by rw [hLen], by rw [hLen]; exact hcap, ?_, hrowA, ?_⟩))
          · intro j v hj
            rw [Nat.zero_add]
            have hj' := (List.getElem?_eq_some_iff.1 hj).1
            simp only [World.cell?, hatn]
            rw [← hobj, Array.getElem?_append_left (by simpa using hj')]
            simpa using hj
          · refine ⟨_, E, _, _, hatn, ?_, fun o ho => by omega, by omega⟩
            rw [← hobj, Array.size_append, hzl]
            simp only [List.size_toArray, hVen]
            omega
        · cases h
      · cases h
    · cases h
/-- One of these, or none. -/
def xOp (P : Program) (st : St) (o : Oper) : Option (Option St) :=
  match o.op with
  | .call c =>
    match c.callee with
    | .builtin .copy => some (copyOp P st o)
    | .builtin .append =>
      match c.args.toList, c.argTypes.toList with
      | [s, _], [ts, _] =>
        match st.ev P ts s with
        | .bsl .. => some (appB P st o)
        | _ => none
      | _, _ => none
    | _ => none
  | _ => none
theorem step_x {X : Ent} {st st' : St} {o : Oper} (h : xOp P st o = some (some st')) (hd : St.fits X.n o.dst = true) : OpStep P X st o st' := by
  unfold xOp at h
  split at h
  · split at h
    · exact step_copy (Option.some.inj h) hd
    · split at h
      · split at h
        · exact step_appB (Option.some.inj h) hd
        · cases h
      · cases h
    · cases h
  · cases h
end Go.VS
namespace Go.VS
set_option linter.unusedVariables false
set_option linter.unusedSimpArgs false
set_option linter.unusedSectionVars false
open Go
variable {P : Program}
def isIt (o : Oper) : Bool :=
  match o.op with
  | .range _ _ => true
  | .next _ s => s
  | _ => false
/-- A run over a text begins, or goes on. -/
def itP (P : Program) (n : Nat) (st : St) (o : Oper) (K : St → Prop) : Prop :=
  match o.op with
  | .range T x =>
    match st.ev P T x with
    | .str l => (P.underlying T matches some .string) = true ∧ isHid (st.s n) = false ∧ St.fits n o.dst = true ∧
        ∀ b : Nat, K (({ st with s := upd st.s n (.itp b (some ([], l))) } : St).putO o.dst (.itp b none))
    | _ => False
  | .next x true =>
    match st.ev P 0 x, st.s n with
    | .itp b none, .itp b' (some (s, r)) => b = b' ∧ St.fits n o.dst = true ∧
      (match r with
        | [] => K (st.putO o.dst (.tup [.bool false]))
        | _ :: _ => K (({ st with s := upd st.s n (.itp b (some (s ++ r.take (Go.Lib.decodeL r).2, r.drop (Go.Lib.decodeL r).2))) } : St).putO o.dst
            (.tup [.bool true, .int .i64 s.length, .int .i32 ((Go.Lib.decodeL r).1 : Int)])))
    | _, _ => False
  | _ => False
theorem decode_mid (s r : List UInt8) (hr : r ≠ []) : Utf8.decode ⟨(s ++ r).toArray⟩ s.length = Go.Lib.decodeL r := by
  unfold Go.Lib.decodeL
  rw [Go.Lib.decode_at, Go.Lib.decode_at]
  have hg : ∀ k : Nat, (ByteArray.mk (s ++ r).toArray).get! (s.length + k) = (ByteArray.mk r.toArray).get! k := by
    intro k
    show (s ++ r).toArray[s.length + k]! = r.toArray[k]!
    simp [List.getElem?_append_right]
  have hz : (ByteArray.mk (s ++ r).toArray).size - s.length = (ByteArray.mk r.toArray).size - 0 := by
    show (s ++ r).toArray.size - s.length = r.toArray.size - 0
    simp
  have h0 := hg 0
  simp only [Nat.add_zero, Nat.zero_add] at h0 ⊢
  rw [hz, h0, hg 1, hg 2, hg 3]
/-- The slot behind the last one, where only a walk looks. -/
theorem Conc.slotG {X : Ent} {st : St} {C : Ctx} {a a' : Act} {w : World} (hc : Conc X st C a w) {v : AV} (hr : ∀ u, Rep w C v u) (ht : a'.tmps = a.tmps) (hf : Frg X v st.frz C a'.defers w) : Conc X { st with s := upd st.s X.n v } C a' w where
  n := by rw [ht]; exact hc.n
  slots t := by
    rw [ht]
    simp only [upd]
    split
    · exact hr _
    · exact hc.slots t
  frg := by
    have e : upd st.s X.n v X.n = v := upd_same _ _ _
    show Frg X (upd st.s X.n v X.n) st.frz C a'.defers w
    rw [e]; exact hf
  boxes := hc.boxes
  boxSome := hc.boxSome
  mem := hc.mem
  cons := hc.cons
  made := hc.made
  tg := hc.tg
  tgInj := hc.tgInj
  tgMade := hc.tgMade
/-- The slot behind the last one turns, with a block that only a walk looks at. -/
theorem Conc.iter {X : Ent} {st : St} {C : Ctx} {a : Act} {w : World} (hc : Conc X st C a w) {b : Nat} {p p' : List UInt8 × List UInt8} (hg : st.s X.n = .itp b (some p)) :
    Conc X { st with s := upd st.s X.n (.itp b (some p')) } C a (w.putObj b (.stringIter ⟨(p'.1 ++ p'.2).toArray⟩ p'.1.length)) := by
  have hgh := hc.frg.gh
  rw [hg] at hgh
  obtain ⟨h1, h2, h3, h4⟩ := hgh
  have ht : ¬ Touch st.frz C b := fun ht => hc.frg.out b ht h2
  have hlt : b < w.heap.size := hc.frg.fin b h2
  have hf : ∀ v, (v = AV.undef ∨ v = AV.itp b (some p')) → Frg X v st.frz C a.defers (w.putObj b (.stringIter ⟨(p'.1 ++ p'.2).toArray⟩ p'.1.length)) := by
    intro v hv
    refine ⟨fun hd => ⟨(hc.frg.dm hd).1, ?_⟩, fun hd => ?_, ?_, fun k hk => by rw [World.putObj_size]; exact hc.frg.fin k hk, hc.frg.out⟩
    · rcases hv with rfl | rfl <;> trivial
    · obtain ⟨_, rs, q1, q2, q3, q4⟩ := hc.frg.marks hd
      refine ⟨by rcases hv with rfl | rfl <;> rfl, rs, q1, q2, q3, fun r hr => ?_⟩
      obtain ⟨k1, k2, k3, k4⟩ := q4 r hr
      exact ⟨(World.putObj_heap_other fun e => by subst e; rw [h1] at k1; cases k1).trans k1, k2, k3, k4⟩
    · rcases hv with rfl | rfl
      · trivial
      · exact ⟨by rw [World.putObj_heap_same hlt], h2, h3, h4⟩
  have hs0 : Conc X { st with s := upd st.s X.n .undef } C a w := hc.slotG (fun _ => trivial) rfl ⟨fun hd => ⟨(hc.frg.dm hd).1, trivial⟩, fun hd => by
    obtain ⟨_, rs, q1, q2, q3, q4⟩ := hc.frg.marks hd
    exact ⟨rfl, rs, q1, q2, q3, q4⟩, trivial, hc.frg.fin, hc.frg.out⟩
  have hs1 := hs0.putObj (ds := a.defers) (.stringIter ⟨(p'.1 ++ p'.2).toArray⟩ p'.1.length) h3 h4 ht (by
    show Frg X (upd st.s X.n .undef X.n) _ _ _ _
    rw [upd_same]; exact hf _ (.inl rfl))
  have hs2 := hs1.slotG (a' := a) (v := .itp b (some p')) (fun _ => trivial) rfl (hf _ (.inr rfl))
  have e : upd (upd st.s X.n .undef) X.n (.itp b (some p')) = upd st.s X.n (.itp b (some p')) := by
    funext t; simp only [upd]; split <;> rfl
  have hs3 : Conc X { st with s := upd (upd st.s X.n .undef) X.n (.itp b (some p')) } C a _ := hs2
  rw [e] at hs3
  exact hs3
/-- A new block that only a walk looks at. -/
theorem Conc.iterNew {X : Ent} {st : St} {C : Ctx} {a : Act} {w : World} (hc : Conc X st C a w) (l : List UInt8) (hh : isHid (st.s X.n) = false) :
    Conc X { st with s := upd st.s X.n (.itp w.heap.size (some ([], l))) } { C with fo := fun k => C.fo k ∨ k = w.heap.size } a (w.alloc (.stringIter ⟨l.toArray⟩ 0)) := by
  have h1 := hc.alloc (.stringIter ⟨l.toArray⟩ 0)
  have m := h1.mem
  have hmine : X.mine w.heap.size := .inl hc.mem.size
  have t : C.To (w.alloc (.stringIter ⟨l.toArray⟩ 0)) (w.alloc (.stringIter ⟨l.toArray⟩ 0)) { C with fo := fun k => C.fo k ∨ k = w.heap.size } :=
    ⟨fun _ hb => ⟨hb, rfl⟩, fun _ _ hb => hb, fun g => .inr (.inr ⟨rfl, fun _ _ _ => rfl⟩)⟩
  have hsh : ¬ C.Sh w.heap.size := fun h => Nat.lt_irrefl _ (hc.mem.shIn _ h)
  refine { n := h1.n, slots := fun k => ?_, frg := ?_, boxes := fun id cs hid => ?_, boxSome := h1.boxSome, mem := ?_, cons := h1.cons, made := h1.made, tg := h1.tg, tgInj := h1.tgInj, tgMade := h1.tgMade }
  · simp only [upd]
    split
    · trivial
    · exact Rep.to t _ _ (h1.slots k)
  · show Frg X (upd st.s X.n _ X.n) _ _ _ _
    rw [upd_same]
    refine ⟨fun hd => ⟨(h1.frg.dm hd).1, trivial⟩, fun hd => ?_, ⟨heap_alloc_new _ _, .inr rfl, hmine, hsh⟩, fun k hk => ?_, fun k hk hx => ?_⟩
    · obtain ⟨_, rs, q1, q2, q3, q4⟩ := h1.frg.marks hd
      exact ⟨rfl, rs, q1, q2, q3, fun r hr => ⟨(q4 r hr).1, (q4 r hr).2.1, .inl (q4 r hr).2.2.1, (q4 r hr).2.2.2⟩⟩
    · rcases hk with hk | rfl
      · exact h1.frg.fin k hk
      · simp
    · rcases hx with hx | rfl
      · exact h1.frg.out k hk hx
      · exact Nat.lt_irrefl _ (hc.mem.touch hk).2.1
  · obtain ⟨b, c, e, lo, hi, g1, g2, g3, g4⟩ := h1.boxes id cs hid
    exact ⟨b, c, e, lo, hi, g1, g2, g3, RepS.to t cs _ g4⟩
  · exact { shIn := m.shIn, shFrom := m.shFrom, shOld := m.shOld, ownIn := m.ownIn, ownOne := m.ownOne, ownBox := m.ownBox, ownSh := m.ownSh, ownFrz := m.ownFrz, ownMine := m.ownMine, boxIn := m.boxIn, boxOne := m.boxOne,
            boxSh := m.boxSh, boxMine := m.boxMine, kept := m.kept, size := m.size, os := m.os, tape := m.tape, output := m.output, inB := m.inB }
theorem step_it {X : Ent} {st : St} {o : Oper} {K : St → Prop} (h : itP P X.n st o K) (C : Ctx) (a : Act) (w : World) (hC : Conc X st C a w) (Kc : Act → World → Prop) (Q : Exit → Act → World → Prop)
    (hK : ∀ st' C' a' w', K st' → Conc X st' C' a' w' → Kc a' w') : o.wpIn (Fr X.round) 0 P a w Kc Q := by
  unfold itP at h
  split at h
  · rename_i T x ho
    split at h
    · rename_i l hl
      obtain ⟨hT, hh, hd, hk⟩ := h
      have hev := hC.ev P T x
      rw [hl] at hev
      have hT' : P.underlying T = some .string := by
        revert hT
        cases P.underlying T with
        | none => simp
        | some d => cases d <;> simp
      have hexec : (execOp a.eval o).run P w = .ok (.value (.pointer (some ⟨w.heap.size, 0, none⟩))) (w.alloc (.stringIter ⟨l.toArray⟩ 0)) := by
        have hr := run_range_string (P := P) w T ⟨l.toArray⟩ hT'
        have hev' : a.eval x = .string ⟨l.toArray⟩ := hev
        simp only [execOp, ho, hev', Sem.run_bind, hr, Result.andThen_ok]
        rfl
      refine ⟨fun _ _ => trivial, ?_⟩
      rw [semAt_run hexec (by simp), Oper.uponIn_value]
      exact hK _ _ _ _ (hk w.heap.size) ((hC.iterNew l hh).putO hd rfl)
    · exact h.elim
  · rename_i x ho
    split at h
    · rename_i b b' s r hx hg
      obtain ⟨rfl, hd, hk⟩ := h
      have hev := hC.ev P 0 x
      rw [hx] at hev
      have hev' : a.eval x = .pointer (some ⟨b, 0, none⟩) := hev
      have hgh := hC.frg.gh
      rw [hg] at hgh
      obtain ⟨h1, h2, h3, h4⟩ := hgh
      have hlt : b < w.heap.size := hC.frg.fin b h2
      refine ⟨fun _ _ => trivial, ?_⟩
      split at hk
      · have hexec : (execOp a.eval o).run P w = .ok (.value (.tuple #[.bool false])) w := by
          rw [List.append_nil] at h1
          have hsz : ¬ s.length < (ByteArray.mk s.toArray).size := by
            show ¬ s.length < s.toArray.size
            simp
          simp [execOp, ho, hev', Instr.next, getObj, Sem.run, h1, hsz]
        rw [semAt_run hexec (by simp), Oper.uponIn_value]
        exact hK _ _ _ _ hk (hC.putO hd ⟨[.bool false], rfl, .bool false, [], rfl, rfl, rfl⟩)
      · rename_i c t
        have hdm := decode_mid s (c :: t) (by simp)
        have hle := Go.Lib.decodeL_le (c :: t) (by simp)
        generalize Go.Lib.decodeL (c :: t) = q at *
        have hsz : s.length < (ByteArray.mk (s ++ c :: t).toArray).size := by
          show s.length < (s ++ c :: t).toArray.size
          simp
        have hlen : (s ++ (c :: t).take q.2).length = s.length + q.2 := by
          rw [List.length_append, List.length_take, Nat.min_eq_left hle]
        have happ : (s ++ (c :: t).take q.2) ++ (c :: t).drop q.2 = s ++ c :: t := by rw [List.append_assoc, List.take_append_drop]
        have hexec : (execOp a.eval o).run P w = .ok (.value (.tuple #[.bool true, .int .i64 s.length, .int .i32 q.1])) (w.putObj b (.stringIter ⟨(s ++ c :: t).toArray⟩ (s.length + q.2))) := by
          simp [execOp, ho, hev', Instr.next, getObj, setObj, Sem.run, h1, hsz, hdm, goInt, World.putObj]
        rw [semAt_run hexec (by simp), Oper.uponIn_value]
        have hc2 := hC.iter (p' := (s ++ (c :: t).take q.2, (c :: t).drop q.2)) hg
        simp only [hlen, happ] at hc2
        exact hK _ _ _ _ hk (hc2.putO hd ⟨_, rfl, _, _, rfl, rfl, _, _, rfl, rfl, _, _, rfl, rfl, rfl⟩)
    · exact h.elim
  · exact h.elim
end Go.VS
namespace Go.VS
set_option linter.unusedVariables false
set_option linter.unusedSimpArgs false
set_option linter.unusedSectionVars false
open Go
variable {P : Program}
def callB (P : Program) (st : St) (d : Option Nat) (f : FuncId) (as : List AV) (K : St → Prop) : Prop :=
  ∃ (ids : List Nat) (own : List Stamp) (L : Lent) (r : AV) (bs' : List (List AV)), lendStO st as ids own = some L ∧ CallsB P f L.args L.bs r bs' ∧ optP (backSt st d (sharedO own as) L.ids L.gs r bs') K
/-- A function without a body of Go's: what it answers on what is shared; the world is as it was. -/
def ExtP (P : Program) (f : FuncId) (args : List AV) (r : AV) : Prop :=
  ∀ (w : World) (Sh : Nat → Prop) (vals : List Value), RepArgs w Sh args vals → ∃ v, (callFunc f vals.toArray).run P w = .ok (.value v) w ∧ ∀ w' C, Rep w' C r v
/-- A call by a contract of any kind. -/
def callE (P : Program) (st : St) (d : Option Nat) (f : FuncId) (as : List AV) (K : St → Prop) : Prop :=
  (callOk P f = true ∧ argsOk st as = true ∧ callP P st d f as K) ∨ (callOk P f = true ∧ callB P st d f as K) ∨ (argsOk st as = true ∧ ∃ r, ExtP P f (as.map froz) r ∧ K (st.putO d r))
def isCallV (o : Oper) : Bool :=
  match o.op with
  | .call c =>
    match c.callee with
    | .value _ => true
    | _ => false
  | _ => false
/-- A 'copy', or an 'append' onto what lies in a box; else as ever. -/
def vopX (P : Program) (n : Nat) (st : St) (o : Oper) (K : St → Prop) (x : Option (Option St)) : Prop :=
  match x with
  | some r => optP r fun st' => St.fits n o.dst = true ∧ K st'
  | none => vop P n st o K
/-- What is called. -/
def calleeOf (P : Program) (st : St) (o : Oper) : AV :=
  match o.op with
  | .call c =>
    match c.callee with
    | .value x => st.ev P 0 x
    | _ => .undef
  | _ => .undef
/-- On what. -/
def argsOf (P : Program) (st : St) (o : Oper) : List AV :=
  match o.op with
  | .call c => evArgs P st c.args.toList c.argTypes.toList
  | _ => []
/-- An iterator hands on what is next: the round goes on, or it has ended the loop. -/
def yieldP (n : Nat) (st : St) (d : Option Nat) (l : Nat) (as : List AV) (K : St → Prop) : Prop :=
  ∃ done todo, st.s n = .ghost l false done (.tup (as.map froz) :: todo) ∧ argsOk st as = true ∧ St.fits n d = true ∧
    ∀ b : Bool, K (({ st.freezeL (as.flatMap stampsOf) with s := upd (st.freezeL (as.flatMap stampsOf)).s n (.ghost l (!b) (done ++ [.tup (as.map froz)]) todo) } : St).putO d (.bool b))
def yieldOr (v : AV) (f : Nat → Prop) (q : Prop) : Prop :=
  match v with
  | .yl l => f l
  | _ => q
def isDef (o : Oper) : Bool :=
  match o.op with
  | .defer _ => true
  | _ => false
/-- A call is put off to the function's end. -/
def deferOp (P : Program) (n : Nat) (st : St) (o : Oper) : Option St :=
  match o.op with
  | .defer c =>
    match c.callee with
    | .value x =>
      match st.ev P 0 x, st.s n with
      | .fn f cap, .hid .undef => need (c.args.size = 0 ∧ o.dst = none) (some { st with s := upd st.s n (.hid (.fn f cap)) })
      | _, _ => none
    | _ => none
  | _ => none
def vopB (P : Program) (n : Nat) (st : St) (o : Oper) (K : St → Prop) : Prop :=
  if isCallV o = true then yieldOr (calleeOf P st o) (fun l => yieldP n st o.dst l (argsOf P st o) K) (optP (calls P st o) fun fa => St.fits n o.dst = true ∧ callE P st o.dst fa.1 fa.2 K)
  else if isDef o = true then optP (deferOp P n st o) K else if isIt o = true then itP P n st o K else vopX P n st o K (xOp P st o)
theorem step_ext {X : Ent} {st : St} {o : Oper} {f : FuncId} {as : List AV} {r : AV} (h : calls P st o = some (f, as)) (hargs : argsOk st as = true) (hx : ExtP P f (as.map froz) r) (hd : St.fits X.n o.dst = true) : OpStep P X st o (st.putO o.dst r) :=
  OpStep.value fun C a w hC => by
    have hargs' : ∀ v ∈ as, frozable v = true ∧ ∀ g ∈ stampsOf v, st.cons g = false := by
      intro v hv
      have := List.all_eq_true.1 hargs v hv
      simp only [Bool.and_eq_true, List.all_eq_true, Bool.not_eq_true'] at this
      exact this
    unfold calls at h
    split at h
    · rename_i c ho
      split at h
      · rename_i x hcal
        split at h
        · rename_i f' cap hfx
          cases h
          have hfr := hC.ev P 0 x
          rw [hfx] at hfr
          obtain ⟨cvs, hfv, hcap⟩ := hfr
          obtain ⟨hl, hev⟩ := evArgs_rep (P := P) hC c.args.toList c.argTypes.toList
          have hvals : ∀ (i : Nat) (v : AV) (u : Value), (evArgs P st c.args.toList c.argTypes.toList ++ cap)[i]? = some v → (c.args.toList.map a.eval ++ cvs)[i]? = some u → Rep w C v u := by
            intro i v u hv hu
            by_cases hi : i < c.args.toList.length
            · rw [List.getElem?_append_left (by omega)] at hv
              rw [List.getElem?_append_left (by simpa using hi)] at hu
              exact hev i v u hv hu
            · rw [List.getElem?_append_right (by omega)] at hv
              rw [List.getElem?_append_right (by simpa using hi)] at hu
              obtain ⟨u', hu', _, hr⟩ := hcap.get hv
              simp only [List.length_map] at hu
              rw [hl, hu] at hu'
              cases hu'
              exact hr
          have hlen : (evArgs P st c.args.toList c.argTypes.toList ++ cap).length = (c.args.toList.map a.eval ++ cvs).length := by
            simp [hl, hcap.length]
          generalize hAS : evArgs P st c.args.toList c.argTypes.toList ++ cap = as at *
          generalize hVS : c.args.toList.map a.eval ++ cvs = vals at *
          obtain ⟨v, h1, h2⟩ := hx w (fun b => C.Sh b ∨ ∃ g base, C.own g = .live b base) vals ⟨by simpa using hlen, fun i v u hv hu => by
            simp only [List.getElem?_map, Option.map_eq_some_iff] at hv
            obtain ⟨v0, hv0, rfl⟩ := hv
            have hm : v0 ∈ as := List.mem_of_getElem? hv0
            obtain ⟨hf, hg⟩ := hargs' v0 hm
            have t3 : C.To w w ({ C with Sh := fun b => C.Sh b ∨ ∃ g base, C.own g = .live b base } : Ctx) := ⟨fun b hb => ⟨Or.inl hb, rfl⟩, fun _ _ hb => hb, fun _ => .inr (.inr ⟨rfl, fun _ _ _ => rfl⟩)⟩
            refine froz_ok (C := { C with Sh := fun b => C.Sh b ∨ ∃ g base, C.own g = .live b base }) v0 u hf (fun g hgs => ⟨fun e => ?_, fun b base hb => Or.inr ⟨g, base, hb⟩⟩) (Rep.to t3 v0 u (hvals i v0 u hv0 hu))
            have := (hC.cons g).2 e
            rw [hg g hgs] at this; cases this⟩
          have e : (c.args.map a.eval ++ cvs.toArray) = vals.toArray := by rw [← hVS]; apply Array.ext'; simp
          refine ⟨v, w, C, ?_, hC.putO hd (h2 w C)⟩
          simp [execOp, ho, resolve, hcal, hfv, Deferred.ofValue, invoke, e, h1]
        · cases h
      · cases h
    · cases h
/-- What is the caller's has turned, while a round went by. -/
theorem Conc.yielded {X : Ent} {st : St} {C : Ctx} {a : Act} {w : World} (hc : Conc X st C a w) {l : Nat} {done todo as : List AV} (hg : st.s X.n = .ghost l false done (.tup as :: todo)) {M S : Nat → Prop}
    (hM1 : ∀ b, M b ∨ S b → C.fo b) (hM2 : ∀ b, M b → X.mine b) (hM3 : ∀ b, C.Sh b → ¬ M b) {e : Ending} {w' : World} (h : YPost X l (done ++ [.tup as]) todo M S C.Sh w e w') :
    ∃ b C', e = .returned (.bool b) ∧ Conc X { st with s := upd st.s X.n (.ghost l (!b) (done ++ [.tup as]) todo) } C' a w' := by
  obtain ⟨b, he, M', S', h1, h2, h3, h4, h5, h6, h7, h8, h9⟩ := h
  have m := hc.mem
  have nM : ∀ k, Touch st.frz C k → ¬ M k ∧ ¬ S k := fun k hk => ⟨fun x => hc.frg.out k hk (hM1 k (.inl x)), fun x => hc.frg.out k hk (hM1 k (.inr x))⟩
  have hit : X.it = true := by have := hc.frg.gh; rw [hg] at this; exact this.1
  let C' : Ctx := { C with fo := fun k => M' k ∨ S' k }
  have t : C.To w w' C' := ⟨fun k hk => ⟨hk, h6 k (m.shIn k hk) (hM3 k hk)⟩, fun _ _ hb => hb, fun g => .inr (.inr ⟨rfl, fun k base hk => h6 k (m.ownIn g k base hk) fun x => by
    cases hf : st.frz g with
    | true => exact hM3 k (m.ownFrz g k base hk hf) x
    | false => exact (nM k (.inl ⟨g, base, hk, hf⟩)).1 x⟩)⟩
  have hm : MemOk X st.frz C' w' :=
    { shIn := fun k hk => Nat.lt_of_lt_of_le (m.shIn k hk) h5, shFrom := m.shFrom, shOld := m.shOld, ownIn := fun g k base hk => Nat.lt_of_lt_of_le (m.ownIn g k base hk) h5, ownOne := m.ownOne, ownBox := m.ownBox, ownSh := m.ownSh,
      ownFrz := m.ownFrz, ownMine := m.ownMine, boxIn := fun id k hk => Nat.lt_of_lt_of_le (m.boxIn id k hk) h5, boxOne := m.boxOne, boxSh := m.boxSh, boxMine := m.boxMine,
      kept := fun k h1 h2 => by
        rw [h6 k (Nat.lt_of_lt_of_le h1 m.size) fun x => (hM2 k x).elim (fun h => by omega) h2]
        exact m.kept k h1 h2
      size := Nat.le_trans m.size h5, os := h7.trans m.os, tape := h8.trans m.tape, output := h9.trans m.output, inB := m.inB }
  have hout : ∀ k, Touch st.frz C k → ¬ (M' k ∨ S' k) := fun k hk hx => by
    obtain ⟨q1, q2, q3⟩ := m.touch hk
    rcases hx with hx | hx
    · rcases h3 k hx with hx | hx
      · exact (nM k hk).1 hx
      · omega
    · rcases h4 k hx with hx | hx | hx | hx
      · exact (nM k hk).2 hx
      · exact q3 hx
      · exact (nM k hk).1 hx
      · omega
  have hf : Frg X (.ghost l (!b) (done ++ [.tup as]) todo) st.frz C' a.defers w' := by
    refine ⟨fun hd => ⟨(hc.frg.dm hd).1, trivial⟩, fun hd => ?_, ⟨hit, M', S', h1, fun k hk => hk, fun k hk => (h3 k hk).elim (hM2 k) fun h => .inl (Nat.le_trans m.size h), fun k hk hx => ?_⟩, h2, hout⟩
    · obtain ⟨_, rs, q1, q2, _⟩ := hc.frg.marks hd
      have := q2 hit
      subst this
      exact ⟨rfl, [], q1, fun _ => rfl, List.nodup_nil, fun r hr => by cases hr⟩
    · rcases h3 k hx with hx | hx
      · exact hM3 k hk hx
      · have := m.shIn k hk; omega
  refine ⟨b, C', he, ?_⟩
  exact { n := hc.n,
          slots := fun k => by
            simp only [upd]
            split
            · trivial
            · exact Rep.to t _ _ (hc.slots k),
          frg := by
            have e : upd st.s X.n (.ghost l (!b) (done ++ [.tup as]) todo) X.n = _ := upd_same _ _ _
            show Frg X (upd st.s X.n (.ghost l (!b) (done ++ [.tup as]) todo) X.n) st.frz C' a.defers w'
            rw [e]; exact hf,
          boxes := fun id cs hid => by
            obtain ⟨k, c, e, lo, hi, g1, g2, g3, g4⟩ := hc.boxes id cs hid
            exact ⟨k, c, e, lo, hi, g1, (h6 k (m.boxIn id k g1) (nM k (.inr ⟨id, g1⟩)).1).trans g2, g3, RepS.to t cs _ g4⟩,
          boxSome := hc.boxSome, mem := hm, cons := hc.cons, made := hc.made, tg := hc.tg, tgInj := hc.tgInj, tgMade := hc.tgMade }
theorem step_yield {X : Ent} {st : St} {o : Oper} {l : Nat} {K : St → Prop} (hy : YieldOk P X) (hcv : isCallV o = true) (hl : calleeOf P st o = .yl l) (h : yieldP X.n st o.dst l (argsOf P st o) K)
    (C : Ctx) (a : Act) (w : World) (hC : Conc X st C a w) (Kc : Act → World → Prop) (Q : Exit → Act → World → Prop) (hK : ∀ st' C' a' w', K st' → Conc X st' C' a' w' → Kc a' w') : o.wpIn (Fr X.round) 0 P a w Kc Q := by
  obtain ⟨done, todo, hg, hargs, hfit, hk⟩ := h
  have hargs' : ∀ v ∈ argsOf P st o, frozable v = true ∧ ∀ g ∈ stampsOf v, st.cons g = false := by
    intro v hv
    have := List.all_eq_true.1 hargs v hv
    simp only [Bool.and_eq_true, List.all_eq_true, Bool.not_eq_true'] at this
    exact this
  unfold isCallV at hcv
  split at hcv
  · rename_i c ho
    split at hcv
    · rename_i x hcal
      simp only [calleeOf, ho, hcal] at hl
      simp only [argsOf, ho] at hargs hargs' hk hg
      obtain ⟨hlen, hev⟩ := evArgs_rep (P := P) hC c.args.toList c.argTypes.toList
      generalize evArgs P st c.args.toList c.argTypes.toList = as at *
      obtain ⟨C1, hc1, t1, o1, b1, m1, s1⟩ := hC.freezeL (as.flatMap stampsOf) (fun g hg => by
        obtain ⟨v, hv, hg⟩ := List.mem_flatMap.1 hg
        exact (hargs' v hv).2 g hg)
      have hsame := freezeL_same (as.flatMap stampsOf) st
      have hg1 : (st.freezeL (as.flatMap stampsOf)).s X.n = .ghost l false done (.tup (as.map froz) :: todo) := by rw [hsame.1]; exact hg
      have hra : RepArgs w C1.Sh (as.map froz) (c.args.toList.map a.eval) := by
        refine ⟨by simpa using hlen, fun i v u hv hu => ?_⟩
        simp only [List.getElem?_map, Option.map_eq_some_iff] at hv
        obtain ⟨v0, hv0, rfl⟩ := hv
        have hm : v0 ∈ as := List.mem_of_getElem? hv0
        obtain ⟨hf, hgs⟩ := hargs' v0 hm
        refine froz_ok v0 u hf (fun g hgg => ⟨fun e => ?_, fun b base hb => ?_⟩) (Rep.to t1 v0 u (hev i v0 u hv0 (by simpa using hu)))
        · rw [o1] at e
          have := (hC.cons g).2 e
          rw [hgs g hgg] at this; cases this
        · rw [o1] at hb
          exact s1 g (List.mem_flatMap.2 ⟨v0, hm, hgg⟩) b base hb
      have hgh := hc1.frg.gh
      rw [hg1] at hgh
      obtain ⟨_, M, S, j1, j2, j3, j4⟩ := hgh
      have m := hc1.mem
      obtain ⟨fn, tmps, assign, body, hrun, hround⟩ := hy l done todo (as.map froz) M S w C1.Sh (c.args.toList.map a.eval) j1 (fun b hb => hc1.frg.fin b (j2 b hb)) (fun b hb => ⟨m.shIn b hb, j4 b hb, m.shFrom b hb⟩) hra
      have hfv : a.eval x = .func (.yield l) #[] #[] := by
        have := hC.ev P 0 x
        rw [hl] at this; exact this
      have hexec : (execOp a.eval o).run P w = .ok (.round l fn tmps assign body) w := by
        have e : (c.args.toList.map a.eval).toArray = c.args.map a.eval := by apply Array.ext'; simp
        rw [e] at hrun
        simp [execOp, ho, resolve, hcal, hfv, Deferred.ofValue, invoke, hrun]
      refine ⟨fun _ _ => trivial, ?_⟩
      rw [semAt_run hexec (by simp), Oper.uponIn_round]
      refine ⟨fun h => (by simp [Fr] at h), RoundIn.mono (show RoundIn (Fr X.round) (0 - 1) P l fn tmps assign body w _ from hround) ?_⟩
      rintro e w' hp
      obtain ⟨b, C', rfl, hc2⟩ := hc1.yielded hg1 j2 j3 j4 hp
      exact hK _ C' _ w' (hk b) (hc2.putO (by simpa using hfit) rfl)
    · cases hcv
  · cases hcv
theorem step_defer {X : Ent} {st st' : St} {o : Oper} (h : deferOp P X.n st o = some st') : OpStep P X st o st' := by
  intro C a w hC Kc Q hK
  unfold deferOp at h
  split at h
  · rename_i c ho
    split at h
    · rename_i x hcal
      split at h
      · rename_i f cap hx hs
        obtain ⟨⟨h1, h2⟩, h'⟩ := need_some h
        cases h'
        have hev := hC.ev P 0 x
        rw [hx] at hev
        obtain ⟨vs, hv, hr⟩ := hev
        have hdm : X.dm = true := by
          cases e : X.dm with
          | true => rfl
          | false =>
            have := (hC.frg.marks e).1
            rw [hs] at this; cases this
        obtain ⟨hro, hfd⟩ := hC.frg.dm hdm
        rw [hs] at hfd
        have hd0 : a.defers = [] := hfd
        have hargs0 : c.args = #[] := by simpa using h1
        have hexec : (execOp a.eval o).run P w = .ok (.defer { target := .fn (.func f) vs.toArray, args := #[] }) w := by
          simp [execOp, ho, resolve, hcal, hv, Deferred.ofValue, hargs0]
        refine ⟨fun _ _ => trivial, ?_⟩
        rw [hro]
        show o.uponIn (Fr none) 0 P a Kc Q ((o.semAt none a.eval).run P w)
        rw [Oper.semAt_none, hexec, Oper.uponIn_defer, h2, hd0]
        refine hK C _ w ?_
        refine hC.slotG (a' := { a with defers := [{ target := .fn (.func f) vs.toArray, args := #[] }] }) (fun _ => trivial) rfl ?_
        exact ⟨fun _ => ⟨hro, vs, rfl, hr⟩, fun e => (by rw [hdm] at e; cases e), trivial, hC.frg.fin, hC.frg.out⟩
      · cases h
    · cases h
  · cases h
theorem OpStep.use {X : Ent} {st st' : St} {o : Oper} {K : St → Prop} (h : OpStep P X st o st') (hk : K st') (C : Ctx) (a : Act) (w : World) (hC : Conc X st C a w) (Kc : Act → World → Prop) (Q : Exit → Act → World → Prop)
    (hK : ∀ st' C' a' w', K st' → Conc X st' C' a' w' → Kc a' w') : o.wpIn (Fr X.round) 0 P a w Kc Q := h C a w hC Kc Q fun C' a' w' hc' => hK st' C' a' w' hk hc'
theorem vopB_sound {X : Ent} {st : St} {o : Oper} {K : St → Prop} (hy : YieldOk P X) (h : vopB P X.n st o K) (C : Ctx) (a : Act) (w : World) (hC : Conc X st C a w) (Kc : Act → World → Prop) (Q : Exit → Act → World → Prop)
    (hK : ∀ st' C' a' w', K st' → Conc X st' C' a' w' → Kc a' w') : o.wpIn (Fr X.round) 0 P a w Kc Q := by
  unfold vopB at h
  split at h
  · rename_i hcv
    unfold yieldOr at h
    split at h
    · rename_i l hl
      exact step_yield hy hcv hl h C a w hC Kc Q hK
    unfold optP at h
    split at h
    · rename_i fa hc
      obtain ⟨h2, h3⟩ := h
      rcases h3 with ⟨h1, h3, r, h4, h5⟩ | ⟨h1, ids, own, L, r, bs', h3, h4, h5⟩ | ⟨h1, r, h4, h5⟩
      · unfold optP at h5
        split at h5
        · rename_i st' hst
          exact (step_call (f := fa.1) (as := fa.2) hc h1 h3 h4 hst h2).use h5 C a w hC Kc Q hK
        · exact h5.elim
      · unfold optP at h5
        split at h5
        · rename_i st' hst
          exact (step_callB (f := fa.1) (as := fa.2) hc h1 h3 h4 hst h2).use h5 C a w hC Kc Q hK
        · exact h5.elim
      · exact (step_ext (f := fa.1) (as := fa.2) hc h1 h4 h2).use h5 C a w hC Kc Q hK
    · exact h.elim
  · split at h
    · unfold optP at h
      split at h
      · rename_i st' hst
        exact (step_defer hst).use h C a w hC Kc Q hK
      · exact h.elim
    split at h
    · exact step_it h C a w hC Kc Q hK
    unfold vopX at h
    split at h
    · rename_i r hr
      unfold optP at h
      split at h
      · rename_i st'
        exact (step_x hr h.1).use h.2 C a w hC Kc Q hK
      · exact h.elim
    · obtain ⟨st', h1, h2⟩ := vop_sound h
      exact h1.use h2 C a w hC Kc Q hK
def vopsB (P : Program) (n : Nat) (ops : Array Oper) : List Oper → St → (St → Prop) → Prop
  | [], st, K => K st
  | o :: os, st, K => vguard n ops st o (vopB P n st o) fun st' => vopsB P n ops os st' K
theorem vguardB_sound {X : Ent} (hy : YieldOk P X) {ops : Array Oper} {st : St} {i : Nat} {o : Oper} {K : St → Prop} (hi : ops[i]? = some o) (h : vguard X.n ops st o (vopB P X.n st o) K)
    {C : Ctx} {a : Act} {w : World} (hc : Conc X st C a w) {Kc : Act → World → Prop} {Q : Exit → Act → World → Prop} (hK : ∀ st' C' a' w', K st' → Conc X st' C' a' w' → Kc a' w') : wpOpIn (Fr X.round) 0 P ops Q i Kc a w := by
  unfold wpOpIn
  rw [hi]
  simp only
  unfold vguard at h
  split at h
  · rename_i hg
    have hw : Region.wanted o (yielded ops a.tmps) = true := by simp [Region.wanted, hg]
    rw [if_pos hw]
    exact vopB_sound hy h C a w hc Kc Q hK
  · rename_i j want hg
    split at h
    · rename_i g hgd
      split at h
      · rename_i b hb
        have hyy := yielded_of hc hgd hb
        by_cases e : b = want
        · have hw : Region.wanted o (yielded ops a.tmps) = true := by simp [Region.wanted, hg, hyy, e]
          rw [if_pos hw]
          exact vopB_sound hy (h.1 e) C a w hc Kc Q hK
        · have hw : ¬ (Region.wanted o (yielded ops a.tmps) = true) := by simp [Region.wanted, hg, hyy, e]
          rw [if_neg hw]
          obtain ⟨h1, h2⟩ := h.2 e
          exact ⟨fun _ _ => trivial, hK _ C _ w h2 (hc.putO h1 ⟨[], rfl, rfl⟩)⟩
      · rename_i hb
        have hyy := yielded_skip hc hgd hb
        have hw : ¬ (Region.wanted o (yielded ops a.tmps) = true) := by simp [Region.wanted, hg, hyy]
        rw [if_neg hw]
        exact ⟨fun _ _ => trivial, hK _ C _ w h.2 (hc.putO h.1 ⟨[], rfl, rfl⟩)⟩
      · exact h.elim
    · exact h.elim
theorem vopsB_sound {X : Ent} (hy : YieldOk P X) {ops : Array Oper} {Q : Exit → Act → World → Prop} : ∀ (l : List Oper) (k : Nat) (st : St) (K : St → Prop), ops.toList.drop k = l → vopsB P X.n ops l st K → ∀ (C : Ctx) (a : Act) (w : World), Conc X st C a w →
    (∀ st' C' a' w', K st' → Conc X st' C' a' w' → Q .normal a' w') → wpOpsIn (Fr X.round) 0 P ops Q (List.range' k l.length) a w
  | [], k, st, K, _, h, C, a, w, hc, hK => hK st C a w h hc
  | o :: l, k, st, K, hl, h, C, a, w, hc, hK => by
    have hk : ops[k]? = some o := by
      have h0 : (ops.toList.drop k)[0]? = some o := by rw [hl]; rfl
      simpa [List.getElem?_drop] using h0
    simp only [List.length_cons, List.range'_succ]
    rw [wpOpsIn_cons]
    simp only [vopsB] at h
    have hd : ops.toList.drop (k + 1) = l := by rw [← List.drop_drop, hl]; rfl
    exact vguardB_sound hy hk h hc fun st' C' a' w' h' hc' => vopsB_sound hy l (k + 1) st' K hd h' C' a' w' hc' hK
theorem AWP.regionB {X : Ent} {ks : List Nat} {id : Nat} {ops : Array Oper} {Q : Exit → St → Prop} {st : St} (h : vopsB P X.n ops ops.toList st fun s => Q .normal (norm ks s)) : AWP P X (.region id ops false) Q st := by
  intro hy C a w hc
  refine wpIn_region ?_
  have : List.range' 0 ops.toList.length = List.range ops.size := by simp [List.range_eq_range']
  rw [← this]
  refine vopsB_sound hy ops.toList 0 st _ (by simp) h C a w hc fun st' C' a' w' hq hc' => ?_
  obtain ⟨C2, h2⟩ := hc'.norm ks
  exact ⟨_, C2, hq, h2⟩
theorem AWP.seqRB {X : Ent} (ks : List Nat) {id : Nat} {ops : Array Oper} {y : Code} {Q : Exit → St → Prop} {st : St}
    (h : ∀ K : St → Prop, (∀ s, AWP P X y Q s → K s) → vopsB P X.n ops ops.toList st fun s => K (norm ks s)) : AWP P X (.seq (.region id ops false) y) Q st :=
  AWP.seq (AWP.regionB (h _ fun _ hs => hs))
theorem AWP.lastRB {X : Ent} (ks : List Nat) {id : Nat} {ops : Array Oper} {Q : Exit → St → Prop} {st : St}
    (h : ∀ K : St → Prop, (∀ s, Q .normal s → K s) → vopsB P X.n ops ops.toList st fun s => K (norm ks s)) : AWP P X (.region id ops false) Q st :=
  AWP.regionB (h _ fun _ hs => hs)
theorem yieldOr_fn (f : FuncId) (cap : List AV) (g : Nat → Prop) (q : Prop) : yieldOr (.fn f cap) g q = q := rfl
theorem yieldOr_yl (l : Nat) (g : Nat → Prop) (q : Prop) : yieldOr (.yl l) g q = g l := rfl
theorem vopX_none (n : Nat) (st : St) (o : Oper) (K : St → Prop) : vopX P n st o K none = vop P n st o K := rfl
theorem vopsB_nil (n : Nat) (ops : Array Oper) (st : St) (K : St → Prop) : vopsB P n ops [] st K = K st := rfl
theorem vopsB_mk (n : Nat) (ops : Array Oper) (o : Oper) (os : List Oper) (s : Nat → AV) (b : Nat → Option (List AV)) (c f : Stamp → Bool) (m : Nat → Bool) (r : Nat → Option Stamp) (K : St → Prop) :
    vopsB P n ops (o :: os) (St.mk s b c f m r) K = vguard n ops (St.mk s b c f m r) o (vopB P n (St.mk s b c f m r) o) fun st' => vopsB P n ops os st' K := rfl
theorem vopB_eq (n : Nat) (st : St) (d : Option Tmp) (op : Op) (ty : TypeId) (pos : String) (af : Array Edge) (gd : Option (Nat × Bool)) (K : St → Prop) :
    vopB P n st ⟨d, op, ty, pos, af, gd⟩ K = if isCallV ⟨d, op, ty, pos, af, gd⟩ = true then yieldOr (calleeOf P st ⟨d, op, ty, pos, af, gd⟩) (fun l => yieldP n st d l (argsOf P st ⟨d, op, ty, pos, af, gd⟩) K)
        (optP (calls P st ⟨d, op, ty, pos, af, gd⟩) fun fa => St.fits n d = true ∧ callE P st d fa.1 fa.2 K)
      else if isDef ⟨d, op, ty, pos, af, gd⟩ = true then optP (deferOp P n st ⟨d, op, ty, pos, af, gd⟩) K else if isIt ⟨d, op, ty, pos, af, gd⟩ = true then itP P n st ⟨d, op, ty, pos, af, gd⟩ K else vopX P n st ⟨d, op, ty, pos, af, gd⟩ K (xOp P st ⟨d, op, ty, pos, af, gd⟩) := rfl
/-- By a contract on what is shared. -/
theorem callE_P {st : St} {d : Option Nat} {f : FuncId} {as : List AV} {r : AV} {K : St → Prop} (h : CallsP P f (as.map froz) r) (hk : callOk P f = true ∧ argsOk st as = true ∧ optP (callSt st d as r) K) : callE P st d f as K :=
  .inl ⟨hk.1, hk.2.1, r, h, hk.2.2⟩
theorem callE_X {st : St} {d : Option Nat} {f : FuncId} {as : List AV} {r : AV} {K : St → Prop} (h : ExtP P f (as.map froz) r) (hk : argsOk st as = true ∧ K (st.putO d r)) : callE P st d f as K :=
  .inr (.inr ⟨hk.1, r, h, hk.2⟩)
def eqLent (args : List AV) (bs : List (List AV)) (L : Lent) : Prop := L.args = args ∧ L.bs = bs
theorem eqLent_mk (args args' : List AV) (bs bs' : List (List AV)) (ids : List Nat) (gs : List Stamp) : eqLent args bs ⟨args', bs', ids, gs⟩ = (args' = args ∧ bs' = bs) := rfl
/-- By a contract with boxes. -/
theorem callE_B {st : St} {d : Option Nat} {f : FuncId} {as args : List AV} {bs bs' : List (List AV)} {r : AV} {K : St → Prop} (h : CallsB P f args bs r bs')
    (hk : callOk P f = true ∧ optP (lendSt st as (reach st 2 (addN [] (as.flatMap ptrsA)))) fun L => eqLent args bs L ∧ optP (backSt st d as L.ids L.gs r bs') K) : callE P st d f as K := by
  obtain ⟨hck, hk⟩ := hk
  unfold optP at hk
  split at hk
  · rename_i L hL
    obtain ⟨⟨h1, h2⟩, h3⟩ := hk
    refine .inr (.inl ⟨hck, _, [], L, r, bs', (lendStO_nil ..).trans hL, ?_, by rw [sharedO_nil]; exact h3⟩)
    rw [h1, h2]; exact h
  · exact hk.elim
/-- Of one level of boxes. -/
theorem callE_B1 {st : St} {d : Option Nat} {f : FuncId} {as args : List AV} {bs bs' : List (List AV)} {r : AV} {K : St → Prop} (h : CallsB P f args bs r bs')
    (hk : callOk P f = true ∧ optP (lendSt st as (addN [] (as.flatMap ptrsA))) fun L => eqLent args bs L ∧ optP (backSt st d as L.ids L.gs r bs') K) : callE P st d f as K := by
  obtain ⟨hck, hk⟩ := hk
  unfold optP at hk
  split at hk
  · rename_i L hL
    obtain ⟨⟨h1, h2⟩, h3⟩ := hk
    refine .inr (.inl ⟨hck, _, [], L, r, bs', (lendStO_nil ..).trans hL, ?_, by rw [sharedO_nil]; exact h3⟩)
    rw [h1, h2]; exact h
  · exact hk.elim
theorem addN_nil (l : List Nat) : addN l [] = l := rfl
theorem addN_cons (l : List Nat) (k : Nat) (ks : List Nat) : addN l (k :: ks) = addN (if hasN l k = true then l else l ++ [k]) ks := rfl
theorem St.killL_nil (st : St) : st.killL [] = st := rfl
theorem St.killL_mk (s : Nat → AV) (b : Nat → Option (List AV)) (c f : Stamp → Bool) (m : Nat → Bool) (r : Nat → Option Stamp) (g : Stamp) (gs : List Stamp) :
    (St.mk s b c f m r).killL (g :: gs) = (St.mk s b (updS c g true) f m r).killL gs := rfl
theorem St.newsT_nil (st : St) : st.newsT [] = st := rfl
theorem St.newsT_mk (s : Nat → AV) (b : Nat → Option (List AV)) (c f : Stamp → Bool) (m : Nat → Bool) (r : Nat → Option Stamp) (k : Nat) (t : Stamp) (l : List (Nat × Stamp)) :
    (St.mk s b c f m r).newsT ((k, t) :: l) = (St.mk s b c f (upd m k true) (upd r k (some t))).newsT l := rfl
theorem setBs_nil (kd : Nat) (bids : List Nat) (cs : List (List AV)) (f : Nat → Option (List AV)) : setBs kd bids [] cs f = f := by cases cs <;> rfl
theorem setBs_cons (kd : Nat) (bids : List Nat) (i : Nat) (is : List Nat) (c : List AV) (cs : List (List AV)) (f : Nat → Option (List AV)) : setBs kd bids (i :: is) (c :: cs) f = setBs kd bids is cs (upd f i (some (backL kd bids c))) := rfl
theorem retSB_of {st : St} {rs : List ResultVar} {nIn : Nat} {r : AV} {bs' : List (List AV)} {e : Exit} (he : e = .ret ∨ e = .normal) (esc : List Nat)
    (h : optP (retAV P st rs) fun v => optP (boxesOf st (bxIds 1000000 nIn ++ esc)) fun css => nodupN (bxIds 1000000 nIn ++ esc) = true ∧ okB (bxIds 1000000 nIn ++ esc) v = true ∧ okBLL (bxIds 1000000 nIn ++ esc) css = true ∧
      nodupS (stALL css ++ stA v) = true ∧ ((stALL css ++ stA v).all fun g => !st.cons g && !st.frz g) = true ∧ rnB 3 (stALL css ++ stA v) (bxIds 1000000 nIn ++ esc) v = r ∧
      rnBLL 3 (stALL css ++ stA v) (bxIds 1000000 nIn ++ esc) css = bs') : retSB P rs nIn r bs' e st := by
  unfold optP at h
  split at h
  · rename_i v hv
    split at h
    · rename_i css hcss
      obtain ⟨h1, h2, h3, h4, h5, h6, h7⟩ := h
      exact ⟨he, esc, v, css, hv, hcss, h1, h2, h3, nodupS_ok h4, fun g hg => by simpa using List.all_eq_true.1 h5 g hg, h6, h7⟩
    · exact h.elim
  · exact h.elim
theorem retSB_ret {st : St} {rs : List ResultVar} {nIn : Nat} {r : AV} {bs' : List (List AV)} (esc : List Nat)
    (h : optP (retAV P st rs) fun v => optP (boxesOf st (bxIds 1000000 nIn ++ esc)) fun css => nodupN (bxIds 1000000 nIn ++ esc) = true ∧ okB (bxIds 1000000 nIn ++ esc) v = true ∧ okBLL (bxIds 1000000 nIn ++ esc) css = true ∧
      nodupS (stALL css ++ stA v) = true ∧ ((stALL css ++ stA v).all fun g => !st.cons g && !st.frz g) = true ∧ rnB 3 (stALL css ++ stA v) (bxIds 1000000 nIn ++ esc) v = r ∧
      rnBLL 3 (stALL css ++ stA v) (bxIds 1000000 nIn ++ esc) css = bs') : retSB P rs nIn r bs' .ret st := retSB_of (.inl rfl) esc h
theorem retSB_end {st : St} {rs : List ResultVar} {nIn : Nat} {r : AV} {bs' : List (List AV)} (esc : List Nat)
    (h : optP (retAV P st rs) fun v => optP (boxesOf st (bxIds 1000000 nIn ++ esc)) fun css => nodupN (bxIds 1000000 nIn ++ esc) = true ∧ okB (bxIds 1000000 nIn ++ esc) v = true ∧ okBLL (bxIds 1000000 nIn ++ esc) css = true ∧
      nodupS (stALL css ++ stA v) = true ∧ ((stALL css ++ stA v).all fun g => !st.cons g && !st.frz g) = true ∧ rnB 3 (stALL css ++ stA v) (bxIds 1000000 nIn ++ esc) v = r ∧
      rnBLL 3 (stALL css ++ stA v) (bxIds 1000000 nIn ++ esc) css = bs') : retSB P rs nIn r bs' .normal st := retSB_of (.inr rfl) esc h
/-- A call's beginning, written out. -/
theorem entryB_mk (args : List AV) (bs : List (List AV)) (L : List (Nat × AV)) (B : List (Nat × List AV)) (h1 : ∀ t, lk L t = (args[t]?).getD .undef) (h2 : ∀ i, lkB B i = if 1000000 ≤ i then bs[i - 1000000]? else none) :
    entryB args bs = ⟨lk L, lkB B, hasS [], hasS [], hasN [], lkR []⟩ := by
  unfold entryB
  congr 1
  · funext t; exact (h1 t).symm
  · funext i; exact (h2 i).symm
theorem boxes1 (c : List AV) (i : Nat) : lkB [(1000000, c)] i = if 1000000 ≤ i then [c][i - 1000000]? else none := by
  simp only [lkB]
  by_cases h : i = 1000000
  · subst h; simp
  · rw [if_neg h]
    split
    · rw [List.getElem?_eq_none (by simp; omega)]
    · rfl
theorem boxes2 (c d : List AV) (i : Nat) : lkB [(1000000, c), (1000001, d)] i = if 1000000 ≤ i then [c, d][i - 1000000]? else none := by
  simp only [lkB]
  by_cases h : i = 1000000
  · subst h; simp
  · rw [if_neg h]
    by_cases h2 : i = 1000001
    · subst h2; simp
    · rw [if_neg h2]
      split
      · rw [List.getElem?_eq_none (by simp; omega)]
      · rfl
theorem slots1 (a : AV) (t : Nat) : lk [(0, a)] t = ([a][t]?).getD .undef := by
  match t with
  | 0 => rfl
  | k + 1 => simp [lk]
theorem slots2 (a b : AV) (t : Nat) : lk [(0, a), (1, b)] t = ([a, b][t]?).getD .undef := by
  match t with
  | 0 => rfl
  | 1 => rfl
  | k + 2 => simp [lk]
theorem slots3 (a b c : AV) (t : Nat) : lk [(0, a), (1, b), (2, c)] t = ([a, b, c][t]?).getD .undef := by
  match t with
  | 0 => rfl
  | 1 => rfl
  | 2 => rfl
  | k + 3 => simp [lk]
theorem slots4 (a b c d : AV) (t : Nat) : lk [(0, a), (1, b), (2, c), (3, d)] t = ([a, b, c, d][t]?).getD .undef := by
  match t with
  | 0 => rfl
  | 1 => rfl
  | 2 => rfl
  | 3 => rfl
  | k + 4 => simp [lk]
theorem entryB11 (a : AV) (c : List AV) : entryB [a] [c] = ⟨lk [(0, a)], lkB [(1000000, c)], hasS [], hasS [], hasN [], lkR []⟩ := entryB_mk _ _ _ _ (slots1 a) (boxes1 c)
theorem entryB21 (a b : AV) (c : List AV) : entryB [a, b] [c] = ⟨lk [(0, a), (1, b)], lkB [(1000000, c)], hasS [], hasS [], hasN [], lkR []⟩ := entryB_mk _ _ _ _ (slots2 a b) (boxes1 c)
theorem Conc.adoptB {X : Ent} {st : St} {C : Ctx} {a : Act} {w : World} (h : Conc X st C a w) {id j sz sz' : Nat} {g : Stamp} {eo : Nat} {cs : List AV} (hk : st.bx id = some cs) (hj : cs[j]? = some (.sl none true sz [])) :
    Conc X { st with bx := upd st.bx id (some (cs.set j (.sl (some (g, eo)) true sz' []))) } C a w where
  n := h.n
  slots := h.slots
  frg := h.frg
  boxes i c hi := by
    by_cases e : i = id
    · subst e
      simp at hi; subst hi
      obtain ⟨b, c', e', lo, hi', g1, g2, g3, g4⟩ := h.boxes i cs hk
      refine ⟨b, c', e', lo, hi', g1, g2, g3, ?_⟩
      clear g2 g3 hk
      generalize c'.toList = vs at g4
      clear c'
      induction cs generalizing j vs with
      | nil => simp at hj
      | cons c cs ih =>
        obtain ⟨v, r, rfl, h0, h1, h2⟩ := g4
        cases j with
        | zero =>
          simp at hj; subst hj
          refine ⟨v, r, rfl, h0, ?_, h2⟩
          rcases h1 with ⟨_, _, h1⟩ | ⟨h1, _⟩
          · exact .inr (.inl ⟨rfl, rfl, h1⟩)
          · cases h1
        | succ j => exact ⟨v, r, rfl, h0, h1, ih (by simpa using hj) r h2⟩
    · exact h.boxes i c (by simpa [upd_ne _ _ e] using hi)
  boxSome i b hb := by
    by_cases e : i = id
    · subst e; simp
    · simp only [upd_ne _ _ e]; exact h.boxSome i b hb
  mem := h.mem
  cons := h.cons
  made := h.made
  tg := h.tg
  tgInj := h.tgInj
  tgMade := h.tgMade
theorem AWP.adoptB {X : Ent} {c : Code} {Q : Exit → St → Prop} {st : St} (id j : Nat) (g : Stamp) (eo sz' : Nat) {sz : Nat} {cs : List AV} (hk : st.bx id = some cs) (hj : cs[j]? = some (.sl none true sz []))
    (h : AWP P X c Q { st with bx := upd st.bx id (some (cs.set j (.sl (some (g, eo)) true sz' []))) }) : AWP P X c Q st := AWP.weaken h fun C _ _ hc => ⟨C, hc.adoptB hk hj⟩
end Go.VS
namespace Go.VS
set_option linter.unusedVariables false
set_option linter.unusedSimpArgs false
set_option linter.unusedSectionVars false
open Go
variable {P : Program}
mutual
def frozT : AV → AV
  | .sl _ nb sz l => .sl none nb sz l
  | .agg cs => .agg (frozTL cs)
  | .tup cs => .tup (frozTL cs)
  | .fn f cs => .fn f (frozTL cs)
  | v => v
def frozTL : List AV → List AV
  | [] => []
  | c :: cs => frozT c :: frozTL cs
end
mutual
/-- No address of an element. -/
def noE : AV → Bool
  | .eptr .. => false
  | .agg cs => noEL cs
  | .tup cs => noEL cs
  | .fn _ cs => noEL cs
  | _ => true
def noEL : List AV → Bool
  | [] => true
  | c :: cs => noE c && noEL cs
end
mutual
theorem frozT_ok {w : World} {C C2 : Ctx} (hd : ∀ g, C.own g ≠ .dead) (hb : C2.box = C.box) (hs : ∀ b, C.Sh b → C2.Sh b) : ∀ (a : AV) (v : Value), (∀ g ∈ stA a, ∀ b base, C.own g = .live b base → C2.Sh b) → noE a = true → Rep w C a v → Rep w C2 (frozT a) v
  | .undef, _, _, _, _ => trivial
  | .ghost .., _, _, _, _ => trivial
  | .hid _, _, _, _, _ => trivial
  | .int .., _, _, _, h => h
  | .bool .., _, _, _, h => h
  | .str .., _, _, _, h => h
  | .sl none nb sz l, v, _, _, h => RepF.keep (fun b hb => ⟨hs b hb, rfl⟩) _ v h
  | .sl (some (g, eo)) nb sz l, v, hg, _, h => by
    have hs' := hg g (by simp [stA])
    rcases h with h | h | ⟨h0, b, base, off, cap, vs, h1, _, h2, h3, h4, h5, _⟩
    · exact absurd h (hd g)
    · exact .inl h
    · exact .inr ⟨h0, b, off, cap, vs, none, h2, h3, .inr ⟨rfl, hs' b base h1, h4⟩, RepRow.keep (fun b hb => ⟨hs b hb, rfl⟩) _ _ _ h5⟩
  | .ptr .., _, _, _, h => by
    obtain ⟨b, h1, h2⟩ := h
    exact ⟨b, by rw [hb]; exact h1, h2⟩
  | .nilp, _, _, _, h => h
  | .eptr .., _, _, hk, _ => by simp [noE] at hk
  | .agg cs, v, hg, hk, h => by
    obtain ⟨vs, h1, h2⟩ := h
    exact ⟨vs, h1, frozTL_ok hd hb hs cs vs hg hk h2⟩
  | .tup cs, v, hg, hk, h => by
    obtain ⟨vs, h1, h2⟩ := h
    exact ⟨vs, h1, frozTLU_ok hd hb hs cs vs hg hk h2⟩
  | .fn f cs, v, hg, hk, h => by
    obtain ⟨vs, h1, h2⟩ := h
    exact ⟨vs, h1, frozTL_ok hd hb hs cs vs hg hk h2⟩
  | .nilf, _, _, _, h => h
  | .yl _, _, _, _, h => h
  | .itp .., _, _, _, h => h
  | .bsl .., _, _, _, h => by
    obtain ⟨b, h1, h2⟩ := h
    exact ⟨b, by rw [hb]; exact h1, h2⟩
theorem frozTL_ok {w : World} {C C2 : Ctx} (hd : ∀ g, C.own g ≠ .dead) (hb : C2.box = C.box) (hs : ∀ b, C.Sh b → C2.Sh b) : ∀ (l : List AV) (vs : List Value), (∀ g ∈ stAL l, ∀ b base, C.own g = .live b base → C2.Sh b) → noEL l = true → RepS w C l vs → RepS w C2 (frozTL l) vs
  | [], _, _, _, h => h
  | c :: cs, _, hg, hk, h => by
    obtain ⟨v, r, h1, h0, h2, h3⟩ := h
    simp only [noEL, Bool.and_eq_true] at hk
    exact ⟨v, r, h1, h0, frozT_ok hd hb hs c v (fun g hg' => hg g (by simp [stAL, hg'])) hk.1 h2, frozTL_ok hd hb hs cs r (fun g hg' => hg g (by simp [stAL, hg'])) hk.2 h3⟩
theorem frozTLU_ok {w : World} {C C2 : Ctx} (hd : ∀ g, C.own g ≠ .dead) (hb : C2.box = C.box) (hs : ∀ b, C.Sh b → C2.Sh b) : ∀ (l : List AV) (vs : List Value), (∀ g ∈ stAL l, ∀ b base, C.own g = .live b base → C2.Sh b) → noEL l = true → RepSU w C l vs → RepSU w C2 (frozTL l) vs
  | [], _, _, _, h => h
  | c :: cs, _, hg, hk, h => by
    obtain ⟨v, r, h1, h2, h3⟩ := h
    simp only [noEL, Bool.and_eq_true] at hk
    exact ⟨v, r, h1, frozT_ok hd hb hs c v (fun g hg' => hg g (by simp [stAL, hg'])) hk.1 h2, frozTLU_ok hd hb hs cs r (fun g hg' => hg g (by simp [stAL, hg'])) hk.2 h3⟩
end
mutual
theorem Rep.own2 {w : World} {C C2 : Ctx} (hb : C2.box = C.box) (hs : ∀ b, C.Sh b → C2.Sh b) : ∀ (a : AV) (v : Value), (∀ g ∈ stA a, C2.own g = C.own g) → noE a = true → Rep w C a v → Rep w C2 a v
  | .undef, _, _, _, _ => trivial
  | .ghost .., _, _, _, _ => trivial
  | .hid _, _, _, _, _ => trivial
  | .int .., _, _, _, h => h
  | .bool .., _, _, _, h => h
  | .str .., _, _, _, h => h
  | .sl none nb sz l, v, _, _, h => RepF.keep (fun b hb => ⟨hs b hb, rfl⟩) _ v h
  | .sl (some (g, eo)) nb sz l, v, hg, _, h => by
    have ho := hg g (by simp [stA])
    rcases h with h | h | ⟨h0, b, base, off, cap, vs, h1, h1', h2, h3, h4, h5, h6⟩
    · exact .inl (ho.trans h)
    · exact .inr (.inl h)
    · exact .inr (.inr ⟨h0, b, base, off, cap, vs, ho.trans h1, h1', h2, h3, h4, RepRow.keep (fun b hb => ⟨hs b hb, rfl⟩) _ _ _ h5, h6⟩)
  | .ptr .., _, _, _, h => by
    obtain ⟨b, h1, h2⟩ := h
    exact ⟨b, by rw [hb]; exact h1, h2⟩
  | .nilp, _, _, _, h => h
  | .eptr .., _, _, hk, _ => by simp [noE] at hk
  | .agg cs, v, hg, hk, h => by
    obtain ⟨vs, h1, h2⟩ := h
    exact ⟨vs, h1, RepS.own2 hb hs cs vs hg hk h2⟩
  | .tup cs, v, hg, hk, h => by
    obtain ⟨vs, h1, h2⟩ := h
    exact ⟨vs, h1, RepSU.own2 hb hs cs vs hg hk h2⟩
  | .fn f cs, v, hg, hk, h => by
    obtain ⟨vs, h1, h2⟩ := h
    exact ⟨vs, h1, RepS.own2 hb hs cs vs hg hk h2⟩
  | .nilf, _, _, _, h => h
  | .yl _, _, _, _, h => h
  | .itp .., _, _, _, h => h
  | .bsl .., _, _, _, h => by
    obtain ⟨b, h1, h2⟩ := h
    exact ⟨b, by rw [hb]; exact h1, h2⟩
theorem RepS.own2 {w : World} {C C2 : Ctx} (hb : C2.box = C.box) (hs : ∀ b, C.Sh b → C2.Sh b) : ∀ (l : List AV) (vs : List Value), (∀ g ∈ stAL l, C2.own g = C.own g) → noEL l = true → RepS w C l vs → RepS w C2 l vs
  | [], _, _, _, h => h
  | c :: cs, _, hg, hk, h => by
    obtain ⟨v, r, h1, h0, h2, h3⟩ := h
    simp only [noEL, Bool.and_eq_true] at hk
    exact ⟨v, r, h1, h0, Rep.own2 hb hs c v (fun g hg' => hg g (by simp [stAL, hg'])) hk.1 h2, RepS.own2 hb hs cs r (fun g hg' => hg g (by simp [stAL, hg'])) hk.2 h3⟩
theorem RepSU.own2 {w : World} {C C2 : Ctx} (hb : C2.box = C.box) (hs : ∀ b, C.Sh b → C2.Sh b) : ∀ (l : List AV) (vs : List Value), (∀ g ∈ stAL l, C2.own g = C.own g) → noEL l = true → RepSU w C l vs → RepSU w C2 l vs
  | [], _, _, _, h => h
  | c :: cs, _, hg, hk, h => by
    obtain ⟨v, r, h1, h2, h3⟩ := h
    simp only [noEL, Bool.and_eq_true] at hk
    exact ⟨v, r, h1, Rep.own2 hb hs c v (fun g hg' => hg g (by simp [stAL, hg'])) hk.1 h2, RepSU.own2 hb hs cs r (fun g hg' => hg g (by simp [stAL, hg'])) hk.2 h3⟩
end
def noELL : List (List AV) → Bool
  | [] => true
  | c :: cs => noEL c && noELL cs
theorem noELL_get : ∀ {css : List (List AV)}, noELL css = true → ∀ (i : Nat) (cs : List AV), css[i]? = some cs → noEL cs = true
  | [], _, i, cs, h => by simp at h
  | c :: r, h, i, cs, hi => by
    simp only [noELL, Bool.and_eq_true] at h
    cases i with
    | zero => simp at hi; subst hi; exact h.1
    | succ i => exact noELL_get h.2 i cs (by simpa using hi)
theorem PostB.share {w : World} {C : Ctx} {own0 : Nat → Prop} {hb : ∀ id b, C.box id = some b → 1000000 ≤ id} {ht : tblOk w C.Sh} {hs : ∀ b, C.Sh b → b < w.heap.size ∧ ¬ own0 b} {r : AV} {bs' : List (List AV)} {e : Ending} {w' : World}
    (h : PostB w C own0 hb ht hs r bs' e w') (h1 : noE r = true) (h2 : noELL bs' = true) (h3 : ((stA r).all fun g => !hasS (stALL bs') g) = true) : PostB w C own0 hb ht hs (frozT r) bs' e w' := by
  obtain ⟨v, C', he, hr, m, hd, hbx, hin⟩ := h
  let C2 : Ctx := ⟨fun b => C'.Sh b ∨ ∃ g ∈ stA r, ∃ base, C'.own g = .live b base, fun g => if hasS (stA r) g = true then .none else C'.own g, C'.box, fun _ => False⟩
  have o1 : ∀ g, hasS (stA r) g = false → C2.own g = C'.own g := fun g hg => by
    have e : C2.own g = (if hasS (stA r) g = true then Own.none else C'.own g) := rfl
    rw [e, if_neg (by simp [hg])]
  have o2 : ∀ g b base, C2.own g = .live b base → C'.own g = .live b base ∧ g ∉ stA r := fun g b base hg => by
    cases e : hasS (stA r) g with
    | false => rw [o1 g e] at hg; exact ⟨hg, fun hm => by rw [hasS_mem.2 hm] at e; cases e⟩
    | true =>
      have e2 : C2.own g = (if hasS (stA r) g = true then Own.none else C'.own g) := rfl
      rw [e2, if_pos e] at hg; cases hg
  have sh1 : ∀ b, C'.Sh b → C2.Sh b := fun b hb => Or.inl hb
  refine ⟨v, C2, he, frozT_ok (C2 := C2) hd rfl sh1 r v (fun g hg b base hb => Or.inr ⟨g, hg, base, hb⟩) h1 hr, ?_, ?_, ?_, hin⟩
  · exact { shIn := fun b hb => hb.elim (m.shIn b) fun ⟨g, _, base, hg⟩ => m.ownIn g b base hg,
            shFrom := fun b hb => hb.elim (m.shFrom b) fun ⟨g, _, base, hg⟩ => .inr (m.ownMine g b base hg rfl),
            shOld := fun b hb => Or.inl (m.shOld b hb),
            ownIn := fun g b base hg => m.ownIn g b base (o2 g b base hg).1,
            ownOne := fun g g' b base base' hg hg' hf => m.ownOne g g' b base base' (o2 g b base hg).1 (o2 g' b base' hg').1 hf,
            ownBox := fun g b base id hg hf hbb => m.ownBox g b base id (o2 g b base hg).1 hf hbb,
            ownSh := fun g b base hg hf hsb => by
              obtain ⟨k1, k2⟩ := o2 g b base hg
              rcases hsb with hsb | ⟨g', hm, base', hg'⟩
              · exact m.ownSh g b base k1 hf hsb
              · exact k2 (by rw [m.ownOne g g' b base base' k1 hg' hf]; exact hm),
            ownFrz := fun g b base hg hf => (by cases hf),
            ownMine := fun g b base hg hf => m.ownMine g b base (o2 g b base hg).1 hf,
            boxIn := m.boxIn, boxOne := m.boxOne,
            boxSh := fun id b hbb hsb => by
              rcases hsb with hsb | ⟨g', hm, base', hg'⟩
              · exact m.boxSh id b hbb hsb
              · exact m.ownBox g' b base' id hg' rfl hbb,
            boxMine := m.boxMine, kept := m.kept, size := m.size, os := m.os, tape := m.tape, output := m.output, inB := m.inB }
  · intro g hg
    cases e : hasS (stA r) g with
    | false => rw [o1 g e] at hg; exact hd g hg
    | true =>
      have e2 : C2.own g = (if hasS (stA r) g = true then Own.none else C'.own g) := rfl
      rw [e2, if_pos e] at hg; cases hg
  · intro i cs hi
    obtain ⟨b, c, e', lo, hi', g1, g2, g3, g4⟩ := hbx i cs hi
    refine ⟨b, c, e', lo, hi', g1, g2, g3, RepS.own2 (C := C') (C2 := C2) rfl sh1 cs _ (fun g hg => o1 g ?_) (noELL_get h2 i cs hi) g4⟩
    cases e : hasS (stA r) g with
    | false => rfl
    | true =>
      have := List.all_eq_true.1 h3 g (hasS_mem.1 e)
      rw [hasS_mem.2 (stALL_get i cs hi g hg)] at this
      cases this
/-- What is answered is shared; what is left in the boxes is as ever. -/
def retSF (P : Program) (rs : List ResultVar) (nIn : Nat) (r : AV) (bs' : List (List AV)) : Exit → St → Prop :=
  fun e st => ∃ r0, noE r0 = true ∧ noELL bs' = true ∧ ((stA r0).all fun g => !hasS (stALL bs') g) = true ∧ frozT r0 = r ∧ retSB P rs nIn r0 bs' e st
theorem CallsB.introRF {f : FuncId} {fn : Func} {c : Code} {args : List AV} {bs bs' : List (List AV)} {r : AV} (hf : P.funcs[f]? = some fn) (hb : fn.body = some c) (hn : args.length ≤ fn.ntmps)
    (h : ∀ X : Ent, X.n = fn.ntmps → X.round = none ∧ X.it = false ∧ X.dm = false → AWP P X c (retSF P fn.results.toList bs.length r bs') (entryB args bs)) : CallsB P f args bs r bs' := by
  intro w C own0 hbig htab hsh0 vals hm h4 hdead hbx hlen hargs hboxes
  refine (CallsB.introG (fun r0 b1 => b1 = bs' ∧ noE r0 = true ∧ noELL bs' = true ∧ ((stA r0).all fun g => !hasS (stALL bs') g) = true ∧ frozT r0 = r) hf hb hn
    (fun X hX hro => AWP.mono (h X hX hro) fun e s ⟨r0, k1, k2, k3, k4, k5⟩ => ⟨r0, bs', ⟨rfl, k1, k2, k3, k4⟩, k5⟩) w C own0 hbig htab hsh0 vals hm h4 hdead hbx hlen hargs hboxes).mono ?_
  rintro e w' ⟨r0, b1, ⟨rfl, k1, k2, k3, rfl⟩, hp⟩
  exact hp.share k1 k2 k3
theorem CallsB.introF {f : FuncId} {fn : Func} {c : Code} {args : List AV} {bs bs' : List (List AV)} {r : AV} (hf : P.funcs[f]? = some fn) (hb : fn.body = some c) (hn : args.length ≤ fn.ntmps)
    (h : ∀ X : Ent, X.n = fn.ntmps → AWP P X c (retSF P fn.results.toList bs.length r bs') (entryB args bs)) : CallsB P f args bs r bs' := CallsB.introRF hf hb hn fun X hX _ => h X hX
theorem retSF_of {st : St} {rs : List ResultVar} {nIn : Nat} {r : AV} {bs' : List (List AV)} {e : Exit} (he : e = .ret ∨ e = .normal) (esc : List Nat)
    (h : optP (retAV P st rs) fun v => optP (boxesOf st (bxIds 1000000 nIn ++ esc)) fun css => nodupN (bxIds 1000000 nIn ++ esc) = true ∧ okB (bxIds 1000000 nIn ++ esc) v = true ∧ okBLL (bxIds 1000000 nIn ++ esc) css = true ∧
      nodupS (stALL css ++ stA v) = true ∧ ((stALL css ++ stA v).all fun g => !st.cons g && !st.frz g) = true ∧ noE (rnB 3 (stALL css ++ stA v) (bxIds 1000000 nIn ++ esc) v) = true ∧
      noELL (rnBLL 3 (stALL css ++ stA v) (bxIds 1000000 nIn ++ esc) css) = true ∧ ((stA (rnB 3 (stALL css ++ stA v) (bxIds 1000000 nIn ++ esc) v)).all fun g => !hasS (stALL (rnBLL 3 (stALL css ++ stA v) (bxIds 1000000 nIn ++ esc) css)) g) = true ∧
      frozT (rnB 3 (stALL css ++ stA v) (bxIds 1000000 nIn ++ esc) v) = r ∧ rnBLL 3 (stALL css ++ stA v) (bxIds 1000000 nIn ++ esc) css = bs') : retSF P rs nIn r bs' e st := by
  unfold optP at h
  split at h
  · rename_i v hv
    split at h
    · rename_i css hcss
      obtain ⟨h1, h2, h3, h4, h5, h6, h7, h8, h9, h10⟩ := h
      exact ⟨_, h6, by rw [← h10]; exact h7, by rw [← h10]; exact h8, h9, he, esc, v, css, hv, hcss, h1, h2, h3, nodupS_ok h4, fun g hg => by simpa using List.all_eq_true.1 h5 g hg, rfl, h10⟩
    · exact h.elim
  · exact h.elim
theorem retSF_ret {st : St} {rs : List ResultVar} {nIn : Nat} {r : AV} {bs' : List (List AV)} (esc : List Nat)
    (h : optP (retAV P st rs) fun v => optP (boxesOf st (bxIds 1000000 nIn ++ esc)) fun css => nodupN (bxIds 1000000 nIn ++ esc) = true ∧ okB (bxIds 1000000 nIn ++ esc) v = true ∧ okBLL (bxIds 1000000 nIn ++ esc) css = true ∧
      nodupS (stALL css ++ stA v) = true ∧ ((stALL css ++ stA v).all fun g => !st.cons g && !st.frz g) = true ∧ noE (rnB 3 (stALL css ++ stA v) (bxIds 1000000 nIn ++ esc) v) = true ∧
      noELL (rnBLL 3 (stALL css ++ stA v) (bxIds 1000000 nIn ++ esc) css) = true ∧ ((stA (rnB 3 (stALL css ++ stA v) (bxIds 1000000 nIn ++ esc) v)).all fun g => !hasS (stALL (rnBLL 3 (stALL css ++ stA v) (bxIds 1000000 nIn ++ esc) css)) g) = true ∧
      frozT (rnB 3 (stALL css ++ stA v) (bxIds 1000000 nIn ++ esc) v) = r ∧ rnBLL 3 (stALL css ++ stA v) (bxIds 1000000 nIn ++ esc) css = bs') : retSF P rs nIn r bs' .ret st := retSF_of (.inl rfl) esc h
theorem retSF_end {st : St} {rs : List ResultVar} {nIn : Nat} {r : AV} {bs' : List (List AV)} (esc : List Nat)
    (h : optP (retAV P st rs) fun v => optP (boxesOf st (bxIds 1000000 nIn ++ esc)) fun css => nodupN (bxIds 1000000 nIn ++ esc) = true ∧ okB (bxIds 1000000 nIn ++ esc) v = true ∧ okBLL (bxIds 1000000 nIn ++ esc) css = true ∧
      nodupS (stALL css ++ stA v) = true ∧ ((stALL css ++ stA v).all fun g => !st.cons g && !st.frz g) = true ∧ noE (rnB 3 (stALL css ++ stA v) (bxIds 1000000 nIn ++ esc) v) = true ∧
      noELL (rnBLL 3 (stALL css ++ stA v) (bxIds 1000000 nIn ++ esc) css) = true ∧ ((stA (rnB 3 (stALL css ++ stA v) (bxIds 1000000 nIn ++ esc) v)).all fun g => !hasS (stALL (rnBLL 3 (stALL css ++ stA v) (bxIds 1000000 nIn ++ esc) css)) g) = true ∧
      frozT (rnB 3 (stALL css ++ stA v) (bxIds 1000000 nIn ++ esc) v) = r ∧ rnBLL 3 (stALL css ++ stA v) (bxIds 1000000 nIn ++ esc) css = bs') : retSF P rs nIn r bs' .normal st := retSF_of (.inr rfl) esc h
/-- A contract without boxes is one on what is shared alone. -/
theorem CallsB.toP {f : FuncId} {args : List AV} {r : AV} (h : CallsB P f args [] r []) : CallsP P f args r := by
  intro w Sh vals ht hs hargs
  let C : Ctx := ⟨Sh, fun _ => .none, fun _ => none, fun _ => False⟩
  have hsh : ∀ b, C.Sh b → b < w.heap.size ∧ ¬ (fun _ : Nat => False) b := fun b hb => ⟨hs b hb, id⟩
  have hm : MemOk (Ent.lent w C (fun _ => False) 0 (fun _ _ h => by cases h) ht hsh) (fun _ => false) C w :=
    { shIn := hs, shFrom := fun b hb => .inl hb, shOld := fun b hb => hb, ownIn := fun g b base hh => (by cases hh), ownOne := fun g g' b _ _ hh => (by cases hh),
      ownBox := fun g b base id hh => (by cases hh), ownSh := fun g b base hh => (by cases hh), ownFrz := fun g b base hh => (by cases hh), ownMine := fun g b base hh => (by cases hh),
      boxIn := fun id b hh => (by cases hh), boxOne := fun id id' b hh => (by cases hh), boxSh := fun id b hh => (by cases hh), boxMine := fun id b hh => (by cases hh),
      kept := fun b _ _ => rfl, size := Nat.le_refl _, os := rfl, tape := rfl, output := rfl, inB := fun _ _ h => h }
  refine (h w C (fun _ => False) (fun _ _ h => by cases h) ht hsh vals hm (fun g hg => absurd rfl hg) (fun g hg => by cases hg) (fun _ _ h => by cases h) hargs.1 (fun i a v ha hv => Rep.of_shared (C := C) a v (hargs.2 i a v ha hv)) (fun i cs hi => by simp at hi)).mono ?_
  rintro e w' ⟨v, C', he, hr, m, hd, _, hin⟩
  refine ⟨v, C', he, hr, ?_, fun id => ?_, hd⟩
  · exact { shIn := m.shIn, shFrom := m.shFrom, shOld := m.shOld, ownIn := m.ownIn, ownOne := m.ownOne, ownBox := m.ownBox, ownSh := m.ownSh, ownFrz := m.ownFrz, ownMine := m.ownMine,
            boxIn := m.boxIn, boxOne := m.boxOne, boxSh := m.boxSh, boxMine := m.boxMine, kept := m.kept, size := m.size, os := m.os, tape := m.tape, output := m.output }
  · cases e : C'.box id with
    | none => rfl
    | some b => have := hin id b e; simp at this; omega
/-- A function, with an answer that is shared from now on. -/
theorem CallsP.introF {f : FuncId} {fn : Func} {c : Code} {args : List AV} {r : AV} (hf : P.funcs[f]? = some fn) (hb : fn.body = some c) (hn : args.length ≤ fn.ntmps)
    (h : ∀ X : Ent, X.n = fn.ntmps → AWP P X c (retSF P fn.results.toList 0 r []) (entryB args [])) : CallsP P f args r :=
  (CallsB.introF hf hb hn h).toP
theorem entryB_0 (args : List AV) : entryB args [] = entry args := by
  unfold entryB entry
  congr 1
  funext id
  split <;> simp
end Go.VS
namespace Go.VS
set_option linter.unusedVariables false
set_option linter.unusedSimpArgs false
set_option linter.unusedSectionVars false
open Go
variable {P : Program}
/-- A condition that must be seen to hold at once. -/
def eqOk (p q : Prop) : Prop := p ∧ q
theorem eqOk_true (q : Prop) : eqOk True q = q := by simp [eqOk]
theorem eqOk_mk {p q : Prop} (h : p ∧ q) : eqOk p q := h
/-- By a contract with boxes, if the boxes and the arguments are those. -/
theorem callE_B3 {st : St} {d : Option Nat} {f : FuncId} {as args : List AV} {bs bs' : List (List AV)} {r : AV} {K : St → Prop} (h : CallsB P f args bs r bs')
    (hk : callOk P f = true ∧ optP (lendSt st as (addN [] (as.flatMap ptrsA))) fun L => eqOk (eqLent args bs L) (optP (backSt st d as L.ids L.gs r bs') K)) : callE P st d f as K :=
  callE_B1 h hk
theorem callE_B4 {st : St} {d : Option Nat} {f : FuncId} {as args : List AV} {bs bs' : List (List AV)} {r : AV} {K : St → Prop} (h : CallsB P f args bs r bs')
    (hk : callOk P f = true ∧ optP (lendSt st as (reach st 2 (addN [] (as.flatMap ptrsA)))) fun L => eqOk (eqLent args bs L) (optP (backSt st d as L.ids L.gs r bs') K)) : callE P st d f as K :=
  callE_B h hk
/-- By a contract that takes some of the arguments along with their names. -/
theorem callE_BO {st : St} {d : Option Nat} {f : FuncId} {as args : List AV} {bs bs' : List (List AV)} {r : AV} {K : St → Prop} (h : CallsB P f args bs r bs')
    (hk : callOk P f = true ∧ optP (lendStO st as (addN [] (as.flatMap ptrsA)) (ownOf args as)) fun L => eqOk (eqLent args bs L) (optP (backSt st d (sharedO (ownOf args as) as) L.ids L.gs r bs') K)) : callE P st d f as K := by
  obtain ⟨hck, hk⟩ := hk
  unfold optP at hk
  split at hk
  · rename_i L hL
    obtain ⟨⟨h1, h2⟩, h3⟩ := hk
    refine .inr (.inl ⟨hck, _, _, L, r, bs', hL, ?_, h3⟩)
    rw [h1, h2]; exact h
  · exact hk.elim
end Go.VS
namespace Go.VS
set_option linter.unusedVariables false
set_option linter.unusedSimpArgs false
set_option linter.unusedSectionVars false
open Go
variable {P : Program}
/-- Steps that leave no choice. -/
inductive Rl : Prop → Prop → Prop
  | sA {P : Program} {X : Ent} {x y z : Code} {Q : Exit → St → Prop} {st : St} : Rl (AWP P X (.seq (.seq x y) z) Q st) (AWP P X (.seq x y) (thenS (AWP P X z Q) Q) st)
  | sB {P : Program} {X : Ent} {id : Nat} {x z : Code} {Q : Exit → St → Prop} {st : St} : Rl (AWP P X (.seq (.block id x) z) Q st) (AWP P X x (blockS id (thenS (AWP P X z Q) Q)) st)
  | b {P : Program} {X : Ent} {id : Nat} {c : Code} {Q : Exit → St → Prop} {st : St} : Rl (AWP P X (.block id c) Q st) (AWP P X c (blockS id Q) st)
  | kN {P : Program} {X : Ent} {z : Code} {Q : Exit → St → Prop} {st : St} : Rl (AWP P X .skip (thenS (AWP P X z Q) Q) st) (AWP P X z Q st)
  | k {P : Program} {X : Ent} {Q : Exit → St → Prop} {st : St} : Rl (AWP P X .skip Q st) (Q .normal st)
  | e {P : Program} {X : Ent} {id : Nat} {Q : Exit → St → Prop} {st : St} : Rl (AWP P X (.exit id) Q st) (Q (.exit id) st)
  | r {P : Program} {X : Ent} {Q : Exit → St → Prop} {st : St} : Rl (AWP P X .ret Q st) (Q .ret st)
  | n {P : Program} {X : Ent} {c : Code} {Q : Exit → St → Prop} {n : Nat} {st : St} : Rl (LoopN P X c Q (n + 1) st) (AWP P X c (thenS (LoopN P X c Q n) Q) st)
  | tN {n : St → Prop} {Q : Exit → St → Prop} {s : St} : Rl (thenS n Q .normal s) (n s)
  | tX {n : St → Prop} {Q : Exit → St → Prop} {s : St} {id : Nat} : Rl (thenS n Q (.exit id) s) (Q (.exit id) s)
  | tR {n : St → Prop} {Q : Exit → St → Prop} {s : St} : Rl (thenS n Q .ret s) (Q .ret s)
  | bN {id : Nat} {Q : Exit → St → Prop} {s : St} : Rl (blockS id Q .normal s) (Q .normal s)
  | bR {id : Nat} {Q : Exit → St → Prop} {s : St} : Rl (blockS id Q .ret s) (Q .ret s)
  | bX {id : Nat} {Q : Exit → St → Prop} {s : St} : Rl (blockS id Q (.exit id) s) (Q .normal s)
  | bY {id id' : Nat} {Q : Exit → St → Prop} {s : St} (h : (id' == id) = false) : Rl (blockS id Q (.exit id') s) (Q (.exit id') s)
theorem Rl.go {p q : Prop} (r : Rl p q) (h : q) : p := by
  cases r with
  | sA => exact AWP.seqA h
  | sB => exact AWP.seqB h
  | b => exact AWP.block h
  | kN => exact AWP.skipN h
  | k => exact AWP.skip h
  | e => exact AWP.exit h
  | r => exact AWP.ret h
  | n => exact h
  | tN => exact h
  | tX => exact h
  | tR => exact h
  | bN => exact h
  | bR => exact h
  | bX => exact blockS_x h
  | bY hne => exact blockS_y (by simpa using hne) h
/-- Regions and branches: what comes behind has a name. -/
inductive Rk (P : Program) (ks : List Nat) : Prop → Prop → Prop
  | s {X : Ent} {id : Nat} {ops : Array Oper} {y : Code} {Q : Exit → St → Prop} {st : St} : Rk P ks (AWP P X (.seq (.region id ops false) y) Q st)
      (∀ K : St → Prop, (∀ s, AWP P X y Q s → K s) → vopsB P X.n ops ops.toList st fun s => K (norm ks s))
  | l {X : Ent} {id : Nat} {ops : Array Oper} {Q : Exit → St → Prop} {st : St} : Rk P ks (AWP P X (.region id ops false) Q st)
      (∀ K : St → Prop, (∀ s, Q .normal s → K s) → vopsB P X.n ops ops.toList st fun s => K (norm ks s))
  | c {X : Ent} {c : Operand} {x y z : Code} {Q : Exit → St → Prop} {st : St} : Rk P ks (AWP P X (.seq (.cond c x y) z) Q st)
      (∀ K : Bool → Prop, ((AWP P X x (thenS (AWP P X z Q) Q) st → K true) ∧ (AWP P X y (thenS (AWP P X z Q) Q) st → K false)) → VS.condP (st.ev P 0 c) (K true) (K false))
  | d {X : Ent} {c : Operand} {x y : Code} {Q : Exit → St → Prop} {st : St} : Rk P ks (AWP P X (.cond c x y) Q st)
      (∀ K : Bool → Prop, ((AWP P X x Q st → K true) ∧ (AWP P X y Q st → K false)) → VS.condP (st.ev P 0 c) (K true) (K false))
theorem Rk.go (ks : List Nat) {p q : Prop} (r : Rk P ks p q) (h : q) : p := by
  cases r with
  | s => exact AWP.seqRB ks h
  | l => exact AWP.lastRB ks h
  | c => exact AWP.seqC fun Kt Kf ht hf => h (fun b => if b = true then Kt else Kf) ⟨fun x => by simpa using ht x, fun x => by simpa using hf x⟩
  | d => exact AWP.condK fun Kt Kf ht hf => h (fun b => if b = true then Kt else Kf) ⟨fun x => by simpa using ht x, fun x => by simpa using hf x⟩
theorem condS {A B : Prop} {K : Bool → Prop} (hK : (A → K true) ∧ (B → K false)) {b : Bool} (ht : b = true → A) (hf : b = false → B) : VS.condP (.bool b) (K true) (K false) :=
  condP_split (fun h => hK.1 (ht h)) fun h => hK.2 (hf h)
/-- Regions that draw their order. -/
inductive Rd (P : Program) (X : Ent) (ks is : List Nat) (id : Nat) (ops : Array Oper) : Prop → Prop → Prop
  | s {y : Code} {Q : Exit → St → Prop} {st : St} : Rd P X ks is id ops (AWP P X (.seq (.region id ops true) y) Q st)
      (∀ K : St → Prop, (∀ s, AWP P X y Q s → K s) → vops P X.n ops (pickO ops is) st fun s => K (norm ks s))
  | l {Q : Exit → St → Prop} {st : St} : Rd P X ks is id ops (AWP P X (.region id ops true) Q st)
      (∀ K : St → Prop, (∀ s, Q .normal s → K s) → vops P X.n ops (pickO ops is) st fun s => K (norm ks s))
theorem Rd.go {X : Ent} (id : Nat) (ks A is : List Nat) {ops : Array Oper} {p q : Prop} (hm : P.follows .mixedOrders = true) (r : Rd P X ks is id ops p q) (ho : orderOk P ops A is = true) (hb : inB ops is = true) (h : q) : p := by
  cases r with
  | s => exact AWP.seqD ks A is hm ho hb h
  | l => exact AWP.lastD ks A is hm ho hb h
inductive Rm (P : Program) (X : Ent) (ks : List Nat) (iss : List (List Nat)) (id : Nat) (ops : Array Oper) (st : St) : Prop → Prop → Prop
  | s {y : Code} {Q : Exit → St → Prop} : Rm P X ks iss id ops st (AWP P X (.seq (.region id ops true) y) Q st)
      (∀ K : St → Prop, (∀ s, AWP P X y Q s → K s) → allO (fun is => vops P X.n ops (pickO ops is) st fun s => K (norm ks s)) iss)
  | l {Q : Exit → St → Prop} : Rm P X ks iss id ops st (AWP P X (.region id ops true) Q st)
      (∀ K : St → Prop, (∀ s, Q .normal s → K s) → allO (fun is => vops P X.n ops (pickO ops is) st fun s => K (norm ks s)) iss)
theorem Rm.go {X : Ent} (id : Nat) (ks ptrs A : List Nat) (iss : List (List Nat)) {ops : Array Oper} {st : St} {p q : Prop} (hm : P.follows .mixedOrders = true) (r : Rm P X ks iss id ops st p q)
    (ho : ordersOk P ptrs ops A iss = true) (hb : iss.all (inB ops) = true) (hpt : (ptrs.all fun a => isP (st.s a)) = true) (h : q) : p := by
  cases r with
  | s => exact AWP.seqM ks ptrs A iss hm ho hb hpt h
  | l => exact AWP.lastM ks ptrs A iss hm ho hb hpt h
/-- Calls by contracts without boxes. -/
inductive Rc (P : Program) : Prop → Prop → Prop → Prop
  | p {st : St} {d : Option Nat} {f : FuncId} {as : List AV} {r : AV} {K : St → Prop} : Rc P (callE P st d f as K) (CallsP P f (as.map froz) r) (callOk P f = true ∧ argsOk st as = true ∧ optP (callSt st d as r) K)
  | q {st : St} {d : Option Nat} {f : FuncId} {as : List AV} {r : AV} {K : St → Prop} : Rc P (callP P st d f as K) (CallsP P f (as.map froz) r) (optP (callSt st d as r) K)
  | x {st : St} {d : Option Nat} {f : FuncId} {as : List AV} {r : AV} {K : St → Prop} : Rc P (callE P st d f as K) (ExtP P f (as.map froz) r) (argsOk st as = true ∧ K (st.putO d r))
theorem Rc.go {p h q : Prop} (c : h) (r : Rc P p h q) (hq : q) : p := by
  cases r with
  | p => exact callE_P c hq
  | q => exact callP_intro2 c hq
  | x => exact callE_X c hq
/-- Ends. -/
inductive Rr (P : Program) (esc : List Nat) : Prop → Prop → Prop
  | r {st : St} {rs : List ResultVar} {r : AV} : Rr P esc (retS P rs r .ret st) (optP (retAV P st rs) fun v => closed v = true ∧ nodupS (stA v) = true ∧ ((stA v).all fun g => !st.cons g && !st.frz g) = true ∧ rnA (stA v) v = r)
  | e {st : St} {rs : List ResultVar} {r : AV} : Rr P esc (retS P rs r .normal st) (optP (retAV P st rs) fun v => closed v = true ∧ nodupS (stA v) = true ∧ ((stA v).all fun g => !st.cons g && !st.frz g) = true ∧ rnA (stA v) v = r)
  | rB {st : St} {rs : List ResultVar} {nIn : Nat} {r : AV} {bs' : List (List AV)} : Rr P esc (retSB P rs nIn r bs' .ret st) (optP (retAV P st rs) fun v => optP (boxesOf st (bxIds 1000000 nIn ++ esc)) fun css => nodupN (bxIds 1000000 nIn ++ esc) = true ∧ okB (bxIds 1000000 nIn ++ esc) v = true ∧ okBLL (bxIds 1000000 nIn ++ esc) css = true ∧
      nodupS (stALL css ++ stA v) = true ∧ ((stALL css ++ stA v).all fun g => !st.cons g && !st.frz g) = true ∧ rnB 3 (stALL css ++ stA v) (bxIds 1000000 nIn ++ esc) v = r ∧
      rnBLL 3 (stALL css ++ stA v) (bxIds 1000000 nIn ++ esc) css = bs')
  | eB {st : St} {rs : List ResultVar} {nIn : Nat} {r : AV} {bs' : List (List AV)} : Rr P esc (retSB P rs nIn r bs' .normal st) (optP (retAV P st rs) fun v => optP (boxesOf st (bxIds 1000000 nIn ++ esc)) fun css => nodupN (bxIds 1000000 nIn ++ esc) = true ∧ okB (bxIds 1000000 nIn ++ esc) v = true ∧ okBLL (bxIds 1000000 nIn ++ esc) css = true ∧
      nodupS (stALL css ++ stA v) = true ∧ ((stALL css ++ stA v).all fun g => !st.cons g && !st.frz g) = true ∧ rnB 3 (stALL css ++ stA v) (bxIds 1000000 nIn ++ esc) v = r ∧
      rnBLL 3 (stALL css ++ stA v) (bxIds 1000000 nIn ++ esc) css = bs')
  | rF {st : St} {rs : List ResultVar} {nIn : Nat} {r : AV} {bs' : List (List AV)} : Rr P esc (retSF P rs nIn r bs' .ret st) (optP (retAV P st rs) fun v => optP (boxesOf st (bxIds 1000000 nIn ++ esc)) fun css => nodupN (bxIds 1000000 nIn ++ esc) = true ∧ okB (bxIds 1000000 nIn ++ esc) v = true ∧ okBLL (bxIds 1000000 nIn ++ esc) css = true ∧
      nodupS (stALL css ++ stA v) = true ∧ ((stALL css ++ stA v).all fun g => !st.cons g && !st.frz g) = true ∧ noE (rnB 3 (stALL css ++ stA v) (bxIds 1000000 nIn ++ esc) v) = true ∧
      noELL (rnBLL 3 (stALL css ++ stA v) (bxIds 1000000 nIn ++ esc) css) = true ∧ ((stA (rnB 3 (stALL css ++ stA v) (bxIds 1000000 nIn ++ esc) v)).all fun g => !hasS (stALL (rnBLL 3 (stALL css ++ stA v) (bxIds 1000000 nIn ++ esc) css)) g) = true ∧
      frozT (rnB 3 (stALL css ++ stA v) (bxIds 1000000 nIn ++ esc) v) = r ∧ rnBLL 3 (stALL css ++ stA v) (bxIds 1000000 nIn ++ esc) css = bs')
  | eF {st : St} {rs : List ResultVar} {nIn : Nat} {r : AV} {bs' : List (List AV)} : Rr P esc (retSF P rs nIn r bs' .normal st) (optP (retAV P st rs) fun v => optP (boxesOf st (bxIds 1000000 nIn ++ esc)) fun css => nodupN (bxIds 1000000 nIn ++ esc) = true ∧ okB (bxIds 1000000 nIn ++ esc) v = true ∧ okBLL (bxIds 1000000 nIn ++ esc) css = true ∧
      nodupS (stALL css ++ stA v) = true ∧ ((stALL css ++ stA v).all fun g => !st.cons g && !st.frz g) = true ∧ noE (rnB 3 (stALL css ++ stA v) (bxIds 1000000 nIn ++ esc) v) = true ∧
      noELL (rnBLL 3 (stALL css ++ stA v) (bxIds 1000000 nIn ++ esc) css) = true ∧ ((stA (rnB 3 (stALL css ++ stA v) (bxIds 1000000 nIn ++ esc) v)).all fun g => !hasS (stALL (rnBLL 3 (stALL css ++ stA v) (bxIds 1000000 nIn ++ esc) css)) g) = true ∧
      frozT (rnB 3 (stALL css ++ stA v) (bxIds 1000000 nIn ++ esc) v) = r ∧ rnBLL 3 (stALL css ++ stA v) (bxIds 1000000 nIn ++ esc) css = bs')
theorem Rr.go (esc : List Nat) {p q : Prop} (r : Rr P esc p q) (h : q) : p := by
  cases r with
  | r => exact retS_ret h
  | e => exact retS_end h
  | rB => exact retSB_ret esc h
  | eB => exact retSB_end esc h
  | rF => exact retSF_ret esc h
  | eF => exact retSF_end esc h
end Go.VS
namespace Go.VS
set_option linter.unusedVariables false
set_option linter.unusedSimpArgs false
set_option linter.unusedSectionVars false
open Go
attribute [go_sem] vopsB_nil vopsB_mk vopB_eq isCallV calleeOf isDef deferOp isIt itP yieldOr_fn yieldOr_yl argsOf bytesOf_u8 Nat.mul_one List.isEmpty_cons List.isEmpty_nil storeEl setE_mk mapK mapKB setA setL setAt map_snoc mx_none byte_i64 byte_u8 cond_true cond_false setB take_drop_len Nat.sub_zero Option.isNone_none Option.isNone_some need_true vops_nil vops_mk vguard_none vguard_some guardSlot guardP_skip guardP_tt guardP_ff guardP_tf guardP_ft int_beq int_bne gt_iff_lt ge_iff_le vop_eq vstep pv pvBin pvUn pvConv pvLoad pvPart pvIndexAddr pvIndex pvFieldAddr pvField pvSlice bnds natOf ownAt pvBuiltin pickAV intBin strBin pvBuild fillAV placeOf partTy putAt St.ev constAV St.solid St.one AV.cells St.fits optP_need optP_bind optP_map optP_some optP_none St.putO_some St.putO_none St.put_mk upd_lk upd_lkB' upd_lkR upd_hasN updS_hasS St.mkNew_mk St.eat_mk St.freezeL_nil St.freezeL_mk St.mkNews_nil St.mkNews_cons St.canNew_mk St.alive_none St.alive_mk hasS_nil hasS_cons hasN_nil hasN_cons lkR_cons lkR_nil lkB_cons lkB_nil norm_mk pickL mapB lk_cons lk_nil thAV thL fateL_cons condP_true condP_false appOp srcAll srcOf sliceOp convOp markOp fillElems calls evArgs argsOk newBox storeBox getElem?_map' List.length_map List.map_cons List.map_nil List.length_cons List.length_nil List.drop_zero List.nil_append List.append_nil List.cons_append List.set_cons_zero List.set_cons_succ List.replicate_succ List.replicate_zero List.all_cons List.all_nil List.flatMap_cons List.flatMap_nil stampsOf stampsL frozable frozableL froz frozL List.getElem?_cons_zero List.getElem?_cons_succ List.getElem?_toArray List.getD_cons_zero List.drop_succ_cons List.take_succ_cons List.take_zero List.drop_nil List.take_nil Option.map_some Option.map_none Option.bind_some Option.bind_none Option.getD_some Option.getD_none Option.isSome_some Option.isSome_none decide_true decide_false decide_eq_true_eq Bool.not_true Bool.not_false Bool.and_true Bool.true_and Bool.and_false Bool.false_and Bool.or_true Bool.or_false Bool.false_or Bool.true_or true_and and_true false_and and_false true_or or_true false_or or_false if_true if_false ne_eq not_true_eq_false not_false_eq_true true_implies false_implies implies_true Bool.true_eq_false Bool.false_eq_true Prod.mk.injEq beq_eq_false_iff_ne eq_self Nat.zero_add Nat.add_zero Nat.zero_le Int.toNat_natCast beq_self_eq_true Option.some.injEq Bool.not_eq_true Bool.not_eq_false retAV retList retOne closed closedL nodupS posS idxOf_posS stA stAL rnA rnL List.toList_toArray
theorem map_drop_r {α β : Type _} {f : α → β} {l : List α} {i : Nat} : (l.map f).drop i = (l.drop i).map f := List.map_drop.symm
theorem map_take_r {α β : Type _} {f : α → β} {l : List α} {i : Nat} : (l.map f).take i = (l.take i).map f := List.map_take.symm
theorem min_left {a b : Nat} (h : a ≤ b) : min a b = a := Nat.min_eq_left h
attribute [go_sem] min_left map_drop_r map_take_r
attribute [go_sem] eqLent_mk lendSt backSt baseOf tgt boxesOf posLL posL posOf ansB ansBL ansBLL stALL okB okBL okBLL rnB rnBL rnBLL posN nodupN addN_nil addN_cons ptrsA ptrsL reach inBoxes St.killL_nil St.killL_mk St.newsT_nil St.newsT_mk setBs_nil setBs_cons backA backL bxIds nm St.tname List.filter_cons List.filter_nil List.getD_cons_succ noE noEL noELL frozT frozTL slim dropBoxes_nil dropBoxes_cons dropBox_mk dropAV dropL delB_nil delB_cons callSt scalarAV scalarL ansOk ansOkL ren3 ren3L List.nodup_cons List.not_mem_nil List.nodup_nil List.mem_cons pickO allO_cons allO_nil and_self
/-- The rules for what a branch or a guard tells. -/
theorem hgW : (∀ (α : Type) (l : List α) (n : Nat), (l.take n).length = min n l.length) ∧ (∀ (α : Type) (l : List α) (n : Nat), (l.drop n).length = l.length - n) ∧
    (∀ (α : Type) (l m : List α), (l ++ m).length = l.length + m.length) ∧ (∀ (α : Type) (a : α) (l : List α), (a :: l).length = l.length + 1) ∧ (∀ (α : Type), ([] : List α).length = 0) ∧
    (∀ (α β : Type) (f : α → β) (l : List α), (l.map f).length = l.length) ∧ (∀ (α : Type) (n : Nat) (a : α), (List.replicate n a).length = n) ∧
    (∀ (α : Type) (l : List α) (n : Nat) (a : α), (l.set n a).length = l.length) ∧ (∀ n : Nat, (List.range n).length = n) ∧
    (∀ (p : Prop) [Decidable p], (decide p = true) = p) ∧ (∀ (p : Prop) [Decidable p], (decide p = false) = ¬p) ∧
    (∀ b : Bool, ((!b) = true) = (b = false)) ∧ (∀ b : Bool, ((!b) = false) = (b = true)) ∧ (∀ a b : Int, (¬a < b) = (b ≤ a)) ∧ (∀ a b : Int, (¬a ≤ b) = (b < a)) :=
  ⟨fun _ _ _ => List.length_take .., fun _ _ _ => List.length_drop .., fun _ _ _ => List.length_append .., fun _ _ _ => rfl, fun _ => rfl, fun _ _ _ _ => List.length_map .., fun _ _ _ => List.length_replicate ..,
    fun _ _ _ _ => List.length_set .., fun _ => List.length_range .., fun _ _ => decide_eq_true_eq, fun _ _ => propext decide_eq_false_iff_not, fun b => by cases b <;> simp, fun b => by cases b <;> simp,
    fun _ _ => propext Int.not_lt, fun _ _ => propext Int.not_le⟩
/-- The rules whose conditions are told by omega: wraps that turn nothing. -/
theorem wrW : (∀ a b : Int, 0 ≤ a → Int.tdiv a b = a / b) ∧ (∀ a b : Int, 0 ≤ a → Int.tmod a b = a % b) ∧ (∀ (α : Type) (l : List α) (k j : Nat) (d : α), j < k → (l.take k).getD j d = l.getD j d) ∧
    (∀ (x : Int) (c : UInt8), 0 ≤ x ∧ x ≤ 1000000000000 → bitop .or .i64 (x * 256) (c.toNat : Int) = x * 256 + c.toNat) ∧
    (∀ n : Int, -9223372036854775808 ≤ n ∧ n ≤ 9223372036854775807 → IntKind.i64.wrap n = n) ∧ (∀ n : Int, 0 ≤ n ∧ n ≤ 255 → IntKind.u8.wrap n = n) ∧
    (∀ n : Int, 0 ≤ n ∧ n ≤ 18446744073709551615 → IntKind.u64.wrap n = n) ∧ (∀ n : Int, 0 ≤ n ∧ n ≤ 4294967295 → IntKind.u32.wrap n = n) ∧ (∀ n : Int, 0 ≤ n ∧ n ≤ 65535 → IntKind.u16.wrap n = n) :=
  ⟨fun _ _ => Int.tdiv_eq_ediv_of_nonneg, fun _ _ => Int.tmod_eq_emod_of_nonneg, fun _ l k j d => getD_take' l k j d, fun x c => bitop_or_256 x c, Go.IntWalk.i64_in, Go.IntWalk.u8_in, Go.IntWalk.u64_in, Go.IntWalk.u32_in, Go.IntWalk.u16_in⟩
attribute [go_sem] Int.cast_ofNat_Int
attribute [go_sem] okP lendStO sharedO isOwn isNamed ownOf
attribute [go_sem] intsOf xOp copyOp appB vopX_none
end Go.VS
