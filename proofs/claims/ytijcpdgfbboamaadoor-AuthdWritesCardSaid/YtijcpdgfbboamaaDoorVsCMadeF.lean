/- What Made comes to: plain definitions, no program in sight. -/
import Derived.Test.YtijcpdgfbboamaaDoorVsCRefS
import Derived.Test.YtijcpdgfbboamaaDoorVsLift
import Derived.Test.YtijcpdgfbboamaaDoorVsCEncT
open Go Go.VS
namespace Go.Proofs.YtijcpdgfbboamaaDoor
set_option linter.unusedVariables false
/-- Bytes, as runes, as bytes again. -/
def runesB (b : List UInt8) : List UInt8 := (runesBytes (runesS b)).data.toList
/-- A plan's item, if it holds no others. (A plan is laid as an item is.) -/
def leafS (p : CI) : CI :=
  if 1 + p.k % 9 ≤ 2 then .mk (1 + p.k % 9) p.n true [] true []
  else if 1 + p.k % 9 = 3 then .mk 3 0 p.bn (p.b.take 300) true []
  else if 1 + p.k % 9 = 4 then .mk 4 0 false (runesB (p.b.take 300)) true []
  else .mk (1 + p.k % 9) 0 true [] true []
def keyP (x : CI) : CI := .mk (x.k % 4) x.n x.bn x.b true []
/-- Where a key stands, or would. -/
def insAt (l : List CI) (key : CI) : Nat → Nat → Nat
  | 0, i => i
  | f + 1, i => if i < l.length ∧ aheadS (l.getD i default) key = true then insAt l key f (i + 2) else i
def insS (key value : CI) (l : List CI) : List CI :=
  if insAt l key (l.length + 1) 0 = l.length ∨ aheadS key (l.getD (insAt l key (l.length + 1) 0) default) = true then
    l.take (insAt l key (l.length + 1) 0) ++ key :: value :: l.drop (insAt l key (l.length + 1) 0)
  else l
def foldS (made : CI → CI) : List CI → List CI → List CI
  | [], l => l
  | x :: xs, l => foldS made xs (insS (leafS (keyP x)) (made x) l)
def madeS : Nat → CI → CI
  | 0, p => leafS p
  | d + 1, p =>
    if 1 + p.k % 9 = 5 then .mk 5 0 true [] ((p.ks.take 8).map (madeS d)).isEmpty ((p.ks.take 8).map (madeS d))
    else if 1 + p.k % 9 = 6 then .mk 6 0 true [] (foldS (madeS d) (p.ks.take 8) []).isEmpty (foldS (madeS d) (p.ks.take 8) [])
    else leafS p
/-- A plan as it comes. -/
def Plan0 (p : CI) : Prop := p.k < 256 ∧ p.n < 18446744073709551616 ∧ p.b.length ≤ 140737488351232 ∧ p.ks.length ≤ 9223372036854775807 ∧ (p.bn = true → p.b = [])
def PlanD : Nat → CI → Prop
  | 0, _ => True
  | d + 1, p => Plan0 p ∧ ∀ y ∈ p.ks, PlanD d y
theorem insAt_even (l : List CI) (key : CI) : ∀ (f i : Nat), i % 2 = 0 → insAt l key f i % 2 = 0
  | 0, i, h => h
  | f + 1, i, h => by
    simp only [insAt]
    split
    · exact insAt_even l key f _ (by omega)
    · exact h
theorem insAt_le (l : List CI) (key : CI) (hl : l.length % 2 = 0) : ∀ (f i : Nat), i % 2 = 0 → i ≤ l.length → insAt l key f i ≤ l.length
  | 0, i, h, h2 => h2
  | f + 1, i, h, h2 => by
    simp only [insAt]
    split
    · rename_i h3
      exact insAt_le l key hl f _ (by omega) (by omega)
    · exact h2
theorem insS_even (key value : CI) (l : List CI) (hl : l.length % 2 = 0) : (insS key value l).length % 2 = 0 ∧ (insS key value l).length ≤ l.length + 2 := by
  have := insAt_le l key hl (l.length + 1) 0 rfl (Nat.zero_le _)
  unfold insS
  split
  · simp only [List.length_append, List.length_cons, List.length_take, List.length_drop]
    omega
  · omega
end Go.Proofs.YtijcpdgfbboamaaDoor
open Go Go.VS
namespace Go.Proofs.YtijcpdgfbboamaaDoor
set_option linter.unusedVariables false
theorem list_ci {Q : CI → Prop} : ∀ l : List AV, (∀ x ∈ l, ∃ p : CI, x = p.av ∧ Q p) → ∃ ps : List CI, l = avs ps ∧ ∀ p ∈ ps, Q p
  | [], _ => ⟨[], rfl, fun p h => by cases h⟩
  | x :: l, h => by
    obtain ⟨p, rfl, hp⟩ := h x (by simp)
    obtain ⟨ps, rfl, hq⟩ := list_ci l fun y hy => h y (by simp [hy])
    refine ⟨p :: ps, rfl, fun q hq' => ?_⟩
    rcases List.mem_cons.1 hq' with rfl | hq'
    · exact hp
    · exact hq q hq'
theorem item_arg {t tk ts : TypeId} (hu : Tryd.prog.underlying t = some (.struct #[{ name := "Kind", type := tk, offset := 0, embedded := false, tag := "", pkgPath := "", byteOffset := 0 },
        { name := "N", type := 25, offset := 1, embedded := false, tag := "", pkgPath := "", byteOffset := 8 },
        { name := "B", type := 22, offset := 2, embedded := false, tag := "", pkgPath := "", byteOffset := 16 },
        { name := "Kids", type := ts, offset := 3, embedded := false, tag := "", pkgPath := "", byteOffset := 40 }]))
    (hk : Tryd.prog.underlying tk = some (.int .u8)) (hs : Tryd.prog.underlying ts = some (.slice t)) (hc : Tryd.prog.cellsOf t = 4) (hc5 : Tryd.prog.cellsOf 5 = 1) (h8 : Tryd.prog.bytesOf 5 = 1) :
    ∀ (n f : Nat) (a : AV), f ≤ n → argOk Tryd.prog f t a → ∃ p : CI, a = p.av ∧ ∀ d, PlanD d p
  | 0, f, a, hf, h => by
    obtain rfl : f = 0 := by omega
    exact h.elim
  | n + 1, f, a, hf, h => by
    obtain ⟨m, parts, rfl, rfl, hp⟩ := argOk_struct hu h
    obtain ⟨p0, r0, rfl, h0, p1, r1, rfl, h1, p2, r2, rfl, h2, p3, r3, rfl, h3, rfl⟩ := hp
    obtain ⟨k, rfl⟩ := argOk_u8 hk h0
    obtain ⟨N, rfl⟩ := argOk_u64 Tryd.underlying25 h1
    obtain ⟨nb, b, rfl, hb, hbl⟩ := argOk_bytesS Tryd.underlying22 Tryd.underlying5 hc5 h8 h2
    obtain ⟨m', nb', l, rfl, rfl, hl, hll, hx⟩ := argOk_slice hs h3
    obtain ⟨ps, rfl, hq⟩ := list_ci l fun x hx' => item_arg hu hk hs hc hc5 h8 n m' x (by omega) (hx x hx')
    have hps : ps.length ≤ 9223372036854775807 := by
      rw [avs_map, List.length_map] at hll
      exact hll
    refine ⟨.mk k.toNat N.toNat nb b nb' ps, ?_, fun d => ?_⟩
    · rw [hc]; rfl
    · cases d with
      | zero => trivial
      | succ d => exact ⟨⟨k.toNat_lt, N.toNat_lt, hbl, hps, hb⟩, fun y hy => hq y hy d⟩
theorem plan_arg {f : Nat} {a : AV} (h : argOk Tryd.prog f 28 a) : ∃ p : CI, a = p.av ∧ ∀ d, PlanD d p :=
  item_arg Tryd.underlying28 Tryd.underlying5 Tryd.underlying26 (by kernel_rfl) (by kernel_rfl) (by kernel_rfl) f f a (Nat.le_refl _) h
theorem raw_arg {f : Nat} {a : AV} (h : argOk Tryd.prog f 35 a) : ∃ p : CI, a = p.av ∧ ∀ d, PlanD d p :=
  item_arg Tryd.underlying35 Tryd.underlying32 Tryd.underlying33 (by kernel_rfl) (by kernel_rfl) (by kernel_rfl) f f a (Nat.le_refl _) h
theorem list_int {k : IntKind} : ∀ l : List AV, (∀ x ∈ l, ∃ z : Int, x = .int k z) → ∃ zs : List Int, l = zs.map (AV.int k)
  | [], _ => ⟨[], rfl⟩
  | x :: l, h => by
    obtain ⟨z, rfl⟩ := h x (by simp)
    obtain ⟨zs, rfl⟩ := list_int l fun y hy => h y (by simp [hy])
    exact ⟨z :: zs, rfl⟩
theorem ints_arg {f : Nat} {a : AV} (h : argOk Tryd.prog f 29 a) : ∃ na zs, a = .sl none na 1 (zs.map (AV.int .i64)) ∧ (na = true → zs = []) ∧ zs.length ≤ 9223372036854775807 := by
  obtain ⟨m, nb, l, _, rfl, h1, h2, h3⟩ := argOk_slice Tryd.underlying29 h
  obtain ⟨zs, rfl⟩ := list_int l fun x hx => (argOk_int Tryd.underlying3 (h3 x hx)).imp fun z hz => hz.1
  have hc : Tryd.prog.cellsOf 3 = 1 := by kernel_rfl
  exact ⟨nb, zs, by rw [hc], fun hn => by simpa using h1 hn, by rw [List.length_map] at h2; exact h2⟩
end Go.Proofs.YtijcpdgfbboamaaDoor
open Go Go.VS
namespace Go.Proofs.YtijcpdgfbboamaaDoor
set_option linter.unusedVariables false
theorem runesB_len (b : List UInt8) (h : b.length ≤ 300) : (runesB b).length ≤ 1200 := by
  have h1 := runesBytes_size_le (runesS b)
  have h2 : (runesS b).length ≤ b.length := runesFromS_len _ _ _
  have h3 : (runesBytes (runesS b)).data.toList.length = (runesBytes (runesS b)).size := by simp
  unfold runesB
  omega
theorem leaf_k (p : CI) : (leafS p).k = 1 + p.k % 9 ∧ (leafS p).ks = [] := by
  unfold leafS
  split
  · exact ⟨rfl, rfl⟩
  split
  · rename_i h; exact ⟨h.symm, rfl⟩
  split
  · rename_i h; exact ⟨h.symm, rfl⟩
  · exact ⟨rfl, rfl⟩
theorem leaf_fit (p : CI) (hp : Plan0 p) (d : Nat) : Fit d (leafS p) := by
  obtain ⟨h1, h2⟩ := leaf_k p
  obtain ⟨g1, g2, g3, g4, g5⟩ := hp
  refine Fit.leaf d h2 ?_
  refine ⟨by omega, ?_, ?_, by rw [h2]; exact Nat.zero_le _, ?_⟩
  · unfold leafS
    (repeat' split) <;> first | exact g2 | (show 0 < _; decide)
  · unfold leafS
    split
    · exact Nat.zero_le _
    split
    · show (p.b.take 300).length ≤ _; rw [List.length_take]; omega
    split
    · show (runesB _).length ≤ _
      have := runesB_len (p.b.take 300) (by rw [List.length_take]; omega)
      omega
    · exact Nat.zero_le _
  · unfold leafS
    split
    · exact fun _ => rfl
    split
    · intro h; show p.b.take 300 = []; rw [g5 h]; rfl
    split
    · intro h; cases h
    · exact fun _ => rfl
theorem ins_mem {key value y : CI} {l : List CI} (h : y ∈ insS key value l) : y = key ∨ y = value ∨ y ∈ l := by
  unfold insS at h
  split at h
  · rcases List.mem_append.1 h with h | h
    · exact .inr (.inr (List.mem_of_mem_take h))
    · simp only [List.mem_cons] at h
      rcases h with h | h | h
      · exact .inl h
      · exact .inr (.inl h)
      · exact .inr (.inr (List.mem_of_mem_drop h))
  · exact .inr (.inr h)
theorem fold_mem (made : CI → CI) (P : CI → Prop) : ∀ (xs l : List CI), (∀ x ∈ xs, P (leafS (keyP x)) ∧ P (made x)) → (∀ y ∈ l, P y) → ∀ y ∈ foldS made xs l, P y
  | [], l, h, hl => hl
  | x :: xs, l, h, hl => fold_mem made P xs _ (fun z hz => h z (by simp [hz])) (fun y hy => by
    obtain ⟨h1, h2⟩ := h x (by simp)
    rcases ins_mem hy with rfl | rfl | hy
    · exact h1
    · exact h2
    · exact hl y hy)
theorem fold_len (made : CI → CI) : ∀ (xs l : List CI), l.length % 2 = 0 → (foldS made xs l).length ≤ l.length + 2 * xs.length
  | [], l, h => by simp [foldS]
  | x :: xs, l, h => by
    have h1 := insS_even (leafS (keyP x)) (made x) l h
    have h2 := fold_len made xs (insS (leafS (keyP x)) (made x) l) h1.1
    simp only [foldS, List.length_cons]
    omega
theorem Plan0.key {x : CI} (h : Plan0 x) : Plan0 (keyP x) := by
  obtain ⟨g1, g2, g3, g4, g5⟩ := h
  exact ⟨by show x.k % 4 < 256; omega, g2, g3, by show 0 ≤ _; exact Nat.zero_le _, g5⟩
theorem made_fit (e : Nat) : ∀ (d : Nat) (p : CI), PlanD (d + 1) p → Fit e (madeS d p)
  | 0, p, hp => leaf_fit p hp.1 e
  | d + 1, p, hp => by
    obtain ⟨h0, hq⟩ := hp
    have hx : ∀ x ∈ p.ks.take 8, PlanD (d + 1) x := fun x hx => hq x (List.mem_of_mem_take hx)
    have ht : (p.ks.take 8).length ≤ 8 := by rw [List.length_take]; omega
    have kids : ∀ (k : Nat) (ks : List CI), k < 256 → ks.length ≤ 16 → (∀ (f : Nat), ∀ y ∈ ks, Fit f y) → Fit e (.mk k 0 true [] ks.isEmpty ks) := by
      intro k ks hk hl hy
      have hL : Lim (.mk k 0 true [] ks.isEmpty ks) := ⟨hk, by show 0 < _; decide, Nat.zero_le _, by show ks.length ≤ _; omega, fun _ => rfl⟩
      cases e with
      | zero => exact hL
      | succ e => exact ⟨hL, hy e⟩
    simp only [madeS]
    split
    · refine kids 5 _ (by decide) (by rw [List.length_map]; omega) (fun f y hy => ?_)
      obtain ⟨z, hz, rfl⟩ := List.mem_map.1 hy
      exact made_fit f d z (hx z hz)
    split
    · have hl := fold_len (madeS d) (p.ks.take 8) [] rfl
      refine kids 6 _ (by decide) (by simp only [List.length_nil] at hl; omega) (fun f => ?_)
      exact fold_mem (madeS d) (Fit f) (p.ks.take 8) [] (fun x hxx => ⟨leaf_fit _ (Plan0.key (hx x hxx).1) f, made_fit f d x (hx x hxx)⟩) (fun y hy => by cases hy)
    · exact leaf_fit p h0 e
end Go.Proofs.YtijcpdgfbboamaaDoor
