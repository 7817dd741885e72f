/- What Made comes to: plain definitions, no program in sight. -/
import Derived.Test.YtijcpdgfbboamaaDoorVsCRefS
import Derived.Test.YtijcpdgfbboamaaDoorVsLift
open Go Go.VS
namespace Go.Proofs.YtijcpdgfbboamaaDoor
set_option linter.unusedVariables false
/-- Bytes, as runes, as bytes again. -/
def runesB (b : List UInt8) : List UInt8 := (runesBytes (runesS b)).data.toList
/-- A plan's item, if it holds no others. (A plan is laid as an item is.) -/
def leafS (p : CI) : CI :=
  if 1 + p.k % 9 ≤ 2 then .mk (1 + p.k % 9) p.n true [] true []
  else if 1 + p.k % 9 = 3 then .mk 3 0 p.bn (p.b.take 300) true []
  else if 1 + p.k % 9 = 4 then .mk 4 0 false (runesB (p.b.take 300)) true []
  else .mk (1 + p.k % 9) 0 true [] true []
def keyP (x : CI) : CI := .mk (x.k % 4) x.n x.bn x.b true []
/-- Where a key stands, or would. -/
def insAt (l : List CI) (key : CI) : Nat → Nat → Nat
  | 0, i => i
  | f + 1, i => if i < l.length ∧ aheadS (l.getD i default) key = true then insAt l key f (i + 2) else i
def insS (key value : CI) (l : List CI) : List CI :=
  if insAt l key (l.length + 1) 0 = l.length ∨ aheadS key (l.getD (insAt l key (l.length + 1) 0) default) = true then
    l.take (insAt l key (l.length + 1) 0) ++ key :: value :: l.drop (insAt l key (l.length + 1) 0)
  else l
def foldS (made : CI → CI) : List CI → List CI → List CI
  | [], l => l
  | x :: xs, l => foldS made xs (insS (leafS (keyP x)) (made x) l)
def madeS : Nat → CI → CI
  | 0, p => leafS p
  | d + 1, p =>
    if 1 + p.k % 9 = 5 then .mk 5 0 true [] ((p.ks.take 8).map (madeS d)).isEmpty ((p.ks.take 8).map (madeS d))
    else if 1 + p.k % 9 = 6 then .mk 6 0 true [] (foldS (madeS d) (p.ks.take 8) []).isEmpty (foldS (madeS d) (p.ks.take 8) [])
    else leafS p
/-- A plan as it comes. -/
def Plan0 (p : CI) : Prop := p.k < 256 ∧ p.n < 18446744073709551616 ∧ p.b.length ≤ 9223372036854775807 ∧ p.ks.length ≤ 9223372036854775807 ∧ (p.bn = true → p.b = [])
def PlanD : Nat → CI → Prop
  | 0, _ => True
  | d + 1, p => Plan0 p ∧ ∀ y ∈ p.ks, PlanD d y
theorem insAt_even (l : List CI) (key : CI) : ∀ (f i : Nat), i % 2 = 0 → insAt l key f i % 2 = 0
  | 0, i, h => h
  | f + 1, i, h => by
    simp only [insAt]
    split
    · exact insAt_even l key f _ (by omega)
    · exact h
theorem insAt_le (l : List CI) (key : CI) (hl : l.length % 2 = 0) : ∀ (f i : Nat), i % 2 = 0 → i ≤ l.length → insAt l key f i ≤ l.length
  | 0, i, h, h2 => h2
  | f + 1, i, h, h2 => by
    simp only [insAt]
    split
    · rename_i h3
      exact insAt_le l key hl f _ (by omega) (by omega)
    · exact h2
theorem insS_even (key value : CI) (l : List CI) (hl : l.length % 2 = 0) : (insS key value l).length % 2 = 0 ∧ (insS key value l).length ≤ l.length + 2 := by
  have := insAt_le l key hl (l.length + 1) 0 rfl (Nat.zero_le _)
  unfold insS
  split
  · simp only [List.length_append, List.length_cons, List.length_take, List.length_drop]
    omega
  · omega
end Go.Proofs.YtijcpdgfbboamaaDoor
open Go Go.VS
namespace Go.Proofs.YtijcpdgfbboamaaDoor
set_option linter.unusedVariables false
theorem list_ci {Q : CI → Prop} : ∀ l : List AV, (∀ x ∈ l, ∃ p : CI, x = p.av ∧ Q p) → ∃ ps : List CI, l = avs ps ∧ ∀ p ∈ ps, Q p
  | [], _ => ⟨[], rfl, fun p h => by cases h⟩
  | x :: l, h => by
    obtain ⟨p, rfl, hp⟩ := h x (by simp)
    obtain ⟨ps, rfl, hq⟩ := list_ci l fun y hy => h y (by simp [hy])
    refine ⟨p :: ps, rfl, fun q hq' => ?_⟩
    rcases List.mem_cons.1 hq' with rfl | hq'
    · exact hp
    · exact hq q hq'
theorem item_arg {t tk ts : TypeId} (hu : Tryd.prog.underlying t = some (.struct #[{ name := "Kind", type := tk, offset := 0, embedded := false, tag := "", pkgPath := "", byteOffset := 0 },
        { name := "N", type := 25, offset := 1, embedded := false, tag := "", pkgPath := "", byteOffset := 8 },
        { name := "B", type := 22, offset := 2, embedded := false, tag := "", pkgPath := "", byteOffset := 16 },
        { name := "Kids", type := ts, offset := 3, embedded := false, tag := "", pkgPath := "", byteOffset := 40 }]))
    (hk : Tryd.prog.underlying tk = some (.int .u8)) (hs : Tryd.prog.underlying ts = some (.slice t)) (hc : Tryd.prog.cellsOf t = 4) (hc5 : Tryd.prog.cellsOf 5 = 1) :
    ∀ (n f : Nat) (a : AV), f ≤ n → argOk Tryd.prog f t a → ∃ p : CI, a = p.av ∧ ∀ d, PlanD d p
  | 0, f, a, hf, h => by
    obtain rfl : f = 0 := by omega
    exact h.elim
  | n + 1, f, a, hf, h => by
    obtain ⟨m, parts, rfl, rfl, hp⟩ := argOk_struct hu h
    obtain ⟨p0, r0, rfl, h0, p1, r1, rfl, h1, p2, r2, rfl, h2, p3, r3, rfl, h3, rfl⟩ := hp
    obtain ⟨k, rfl⟩ := argOk_u8 hk h0
    obtain ⟨N, rfl⟩ := argOk_u64 Tryd.underlying25 h1
    obtain ⟨nb, b, rfl, hb, hbl⟩ := argOk_bytes Tryd.underlying22 Tryd.underlying5 hc5 h2
    obtain ⟨m', nb', l, rfl, rfl, hl, hll, hx⟩ := argOk_slice hs h3
    obtain ⟨ps, rfl, hq⟩ := list_ci l fun x hx' => item_arg hu hk hs hc hc5 n m' x (by omega) (hx x hx')
    have hps : ps.length ≤ 9223372036854775807 := by
      rw [avs_map, List.length_map] at hll
      exact hll
    refine ⟨.mk k.toNat N.toNat nb b nb' ps, ?_, fun d => ?_⟩
    · rw [hc]; rfl
    · cases d with
      | zero => trivial
      | succ d => exact ⟨⟨k.toNat_lt, N.toNat_lt, hbl, hps, hb⟩, fun y hy => hq y hy d⟩
theorem plan_arg {f : Nat} {a : AV} (h : argOk Tryd.prog f 28 a) : ∃ p : CI, a = p.av ∧ ∀ d, PlanD d p :=
  item_arg Tryd.underlying28 Tryd.underlying5 Tryd.underlying26 (by kernel_rfl) (by kernel_rfl) f f a (Nat.le_refl _) h
theorem raw_arg {f : Nat} {a : AV} (h : argOk Tryd.prog f 35 a) : ∃ p : CI, a = p.av ∧ ∀ d, PlanD d p :=
  item_arg Tryd.underlying35 Tryd.underlying32 Tryd.underlying33 (by kernel_rfl) (by kernel_rfl) f f a (Nat.le_refl _) h
end Go.Proofs.YtijcpdgfbboamaaDoor
