/- Part of a framework that states what Go functions answer on values as data; it holds for every program of the model. -/
import Derived.Test.YtijcpdgfbboamaaDoorVsBits
import Derived.WalkKit
import Derived.ProofKit
import Derived.OpenShut
import Derived.ShutString
import Derived.ChangeOld
import Derived.Below
import Derived.SizedLaws
import Derived.OwnWalk
import Derived.KernelRfl
import Derived.ChangeSlices
import Derived.ChangeStays
namespace Go.VS
set_option linter.unusedVariables false
set_option linter.unusedSimpArgs false
set_option linter.unusedSectionVars false
open Go Go.ChangeShapes Go.WideShapes Go.ChangeAt Go.RowKit
variable {P : Program}
/-- A slice of bytes that is handed in, as data. -/
theorem bytes_arg {H : Type} {enc : TypeId × Value → H} {w : World} {held : Bool} {t e : TypeId} {v : Value} {d : DataW H} {ps : List MemPlace} (ht : P.underlying t = some (.slice e)) (he : P.underlying e = some (.int .u8)) (hc : P.cellsOf e = 1)
    (hone : v.cells.toList = [v]) (hplain : ∀ a len cap, v = .slice (some a) len cap → a.spot = none ∧ a.block < w.heap.size)
    (h : DataW.Trod enc P w 0 (fun _ => true) held t v d ps) : ∃ nb bs, (nb = true → bs = []) ∧ bs.length ≤ maxLen ∧ RepF w (fun b => b < w.heap.size) (.sl none nb 1 (bs.map u8)) v := by
  obtain ⟨fuel, h⟩ := h
  rw [hone] at h
  rcases open_ints ht he hc h with ⟨h1, h2⟩ | ⟨a, len, cap, zs, h1, h2, h3, h4, h5, h6, h7, h8⟩
  · simp only [List.cons.injEq, and_true] at h1
    subst h1
    exact ⟨true, [], fun _ => rfl, by simp, .inl ⟨rfl, rfl, rfl⟩⟩
  · simp only [List.cons.injEq, and_true] at h1
    subst h1
    obtain ⟨hs, hb⟩ := hplain a len cap rfl
    obtain ⟨b, off, sp⟩ := a
    simp only at hs hb
    subst hs
    simp only [if_true] at h5
    have hlen : ((zs.take len).map fun n => UInt8.ofNat n.toNat).length = len := by simp; omega
    refine ⟨false, (zs.take len).map fun n => UInt8.ofNat n.toNat, fun hh => (by cases hh), by rw [hlen]; omega, .inr ⟨rfl, b, off, cap, (zs.take len).map (Value.int .u8), none, ?_, ?_, .inr ⟨rfl, hb, ?_⟩, ?_⟩⟩
    · rw [List.length_map, hlen]
    · rw [List.length_map, hlen]; exact h3
    · intro j v hj
      simp only [List.getElem?_map, Option.map_eq_some_iff, List.getElem?_take] at hj
      obtain ⟨z, hz, rfl⟩ := hj
      split at hz
      · have := h7 j (by omega)
        rw [Addr.add_plain] at this
        rw [this]
        simp [List.getD_eq_getElem?_getD, hz]
      · cases hz
    · have hz : ∀ z ∈ zs.take len, 0 ≤ z ∧ z ≤ 255 := fun z hz => bounds_u8 (h8 z (List.mem_of_mem_take hz))
      generalize zs.take len = l at hz
      clear hlen
      induction l with
      | nil => rfl
      | cons z l ih =>
        have h0 := hz z (by simp)
        refine ⟨.int .u8 z, l.map (Value.int .u8), rfl, rfl, by intro u hu; simp [Value.cells] at hu; subst hu; rfl, ?_, ih fun y hy => hz y (by simp [hy])⟩
        show Value.int .u8 z = .int .u8 ((UInt8.ofNat z.toNat).toNat : Int)
        congr 1
        rw [UInt8.toNat_ofNat']
        omega

theorem plain_arg {w : World} {r : Reach} {base : Nat} {t e : TypeId} {v : Value} (ht : P.underlying t = some (.slice e)) (h : Value.okWide P w r base t v) :
    v.cells.toList = [v] ∧ ∀ a len cap, v = .slice (some a) len cap → a.spot = none ∧ a.block < w.heap.size := by
  obtain ⟨a, len, cap, rfl⟩ := okWide_slice ht h
  refine ⟨rfl, fun a' len' cap' e' => ?_⟩
  cases e'
  unfold Value.okWide at h
  rw [ht] at h
  simp only at h
  unfold Cell.okWide at h
  rw [ht] at h
  simp only at h
  unfold Cell.ok at h
  rw [ht] at h
  simp only at h
  obtain ⟨_, _, _, hsp, row, cells, hsh, _⟩ := h
  refine ⟨hsp, ?_⟩
  unfold World.shape? at hsh
  split at hsh
  · rename_i hb
    exact (Array.getElem?_eq_some_iff.1 hb).1
  · cases hsh

/-- What a call by contract leaves: what was there is as it was. -/
theorem below_of {W W' : World} {Sh : Nat → Prop} {C : Ctx} {ht : tblOk W Sh} {hs : ∀ b, Sh b → b < W.heap.size} (m : MemOk (Ent.of W Sh 0 ht hs) (fun _ => false) C W') : Below W.heap.size W W' where
  os := m.os
  tape := m.tape
  output := m.output
  size := m.size
  block k hk := m.kept k hk (fun h => h)

theorem trodAll_carry {H : Type} {enc : TypeId × Value → H} {w w' : World} {base : Nat} {spare : Nat → Bool} {held : Bool} : ∀ {ts : List TypeId} {vs : List Value} {ds : List (DataW H)} {ps : List MemPlace},
    DataW.TrodAll enc P w base spare held ts vs ds ps → (∀ p ∈ ps, w.sameAt w' p) → DataW.TrodAll enc P w' base spare held ts vs ds ps
  | [], vs, ds, ps, h, hs => by
    obtain ⟨rfl, rfl, rfl⟩ := trodAll_nil h
    exact h
  | t :: ts, vs, ds, ps, h, hs => by
    obtain ⟨v, vs', d, ds', p, q, rfl, rfl, rfl, ⟨n, h0⟩, r⟩ := trodAll_cons h
    exact trodAll_cons_mk ⟨n, DataW.trod_carry n _ _ _ h0 (fun x hx => hs x (by simp at hx ⊢; exact .inl hx))⟩ (trodAll_carry r (fun x hx => hs x (by simp [hx])))

def slicesB (P : Program) : Bool := (List.range P.types.size).all fun t => match P.underlying t with | some (.slice e) => decide (0 < P.cellsOf e) | _ => true
theorem slicesB_of (h : slicesB P = true) {t e : TypeId} (ht : t < P.types.size) (hu : P.underlying t = some (.slice e)) : 0 < P.cellsOf e := by
  have := List.all_eq_true.1 h t (List.mem_range.2 ht)
  rw [hu] at this
  simpa using this

/-- Arguments read as they did, behind a call that turned nothing. -/
theorem trodAll_stays {H : Type} {enc : TypeId × Value → H} {w w' : World} {sp' : Nat → Bool} (hl : laidOutB P = true) (hm : mapsRowed P = true) (hsl : slicesB P = true) : ∀ {ts : List TypeId} {vs : List Value} {ds : List (DataW H)} {ps : List MemPlace},
    (∀ t ∈ ts, t < P.types.size) → DataW.TrodAll enc P w 0 (fun _ => true) true ts vs ds ps → (∀ p ∈ ps, w.sameAt w' p) → (∀ p ∈ ps, sp' p.block = true) → DataW.TrodAll enc P w' 0 sp' true ts vs ds ps
  | [], vs, ds, ps, _, h, _, _ => by
    obtain ⟨rfl, rfl, rfl⟩ := trodAll_nil h
    exact trodAll_mk0
  | t :: ts, vs, ds, ps, ht, h, hs, hp => by
    obtain ⟨v, vs', d, ds', p, q, rfl, rfl, rfl, ⟨n, h0⟩, r⟩ := trodAll_cons h
    exact trodAll_cons_mk ⟨n, DataW.trod_stays (kids_rows hl hm) (fun ht hu => slicesB_of hsl ht hu) (fun hh => by cases hh) (ht t (by simp)) h0 (fun x hx => hs x (by simp at hx ⊢; exact .inl hx)) (fun x hx => hp x (by simp at hx ⊢; exact .inl hx))⟩
      (trodAll_stays hl hm hsl (fun t ht' => ht t (by simp [ht'])) r (fun x hx => hs x (by simp [hx])) (fun x hx => hp x (by simp [hx])))
end Go.VS
