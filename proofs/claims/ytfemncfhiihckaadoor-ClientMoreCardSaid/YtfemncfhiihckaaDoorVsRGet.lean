/- Get, and client.text, on what Parse answers. -/
import Derived.Test.YtfemncfhiihckaaDoorVsNGet
import Derived.Test.YtfemncfhiihckaaDoorVsLSmall
open Go Go.VS
namespace Go.Proofs.YtfemncfhiihckaaDoor
set_option linter.unusedVariables false
set_option linter.unusedSimpArgs false
set_option maxRecDepth 20000
set_option maxHeartbeats 4000000
def JN.gn (n : JN) : GN := ⟨UInt8.ofNat n.k, n.t, n.ns.isEmpty, n.ns, n.ks.isEmpty, n.ks.map (fun k : Nat => (k : Int))⟩
/-- What a node must be, to be of a text. -/
structure NodeOk (m : Nat) (n : JN) : Prop where
  k : n.k < 256
  ns : n.ns.length ≤ 400
  kl : n.ks.length ≤ 400
  ks : ∀ k ∈ n.ks, k < m
theorem gn_av {m : Nat} {n : JN} (h : NodeOk m n) : n.gn.av = n.av := by
  have e : (UInt8.ofNat n.k).toNat = n.k := by
    have := h.k
    rw [UInt8.toNat_ofNat']; omega
  unfold GN.av JN.gn JN.av
  simp only [e, List.map_map]
  rfl
def getJ (l : List JN) (i : Nat) (t : List UInt8) : Option Nat := (((l.getD i default).ns.zip (l.getD i default).ks).find? (fun z => decide (z.1 = t))).map (·.2)
theorem find_cast : ∀ (ns : List (List UInt8)) (ks : List Nat) (t : List UInt8), (ns.zip (ks.map (fun k : Nat => (k : Int)))).find? (fun z => decide (z.1 = t)) = ((ns.zip ks).find? (fun z => decide (z.1 = t))).map (fun z => (z.1, (z.2 : Int)))
  | [], ks, t => rfl
  | n :: ns, [], t => rfl
  | n :: ns, k :: ks, t => by
    simp only [List.map_cons, List.zip_cons_cons, List.find?_cons]
    by_cases h : n = t
    · simp [h]
    · simp [h, find_cast ns ks t]
theorem getJ_lt {m : Nat} {l : List JN} {i k : Nat} {t : List UInt8} (hl : ∀ n ∈ l, NodeOk m n) (hi : i < l.length) (h : getJ l i t = some k) : k < m := by
  unfold getJ at h
  obtain ⟨z, hz, rfl⟩ := Option.map_eq_some_iff.1 h
  have hm : l.getD i default ∈ l := by
    rw [List.getD_eq_getElem?_getD, List.getElem?_eq_getElem hi]; exact List.getElem_mem _
  exact (hl _ hm).ks _ (List.of_mem_zip (List.mem_of_find?_eq_some hz)).2
def optI (o : Option Nat) : Int := match o with | some k => (k : Int) | none => 0
theorem get_gn {m : Nat} {l : List JN} {i : Nat} {t : List UInt8} (hi : i < l.length) : getS (memG (l.map JN.gn) (i : Int)) t = (optI (getJ l i t), (getJ l i t).isSome) := by
  have hg : (l.map JN.gn).getD i default = (l.getD i default).gn := by
    rw [List.getD_eq_getElem?_getD, List.getD_eq_getElem?_getD, List.getElem?_map, List.getElem?_eq_getElem hi]; rfl
  unfold memG getS
  rw [if_pos ⟨by omega, by rw [List.length_map]; omega⟩, Int.toNat_natCast, hg]
  show (match ((l.getD i default).ns.zip ((l.getD i default).ks.map (fun k : Nat => (k : Int)))).find? (fun z => decide (z.1 = t)) with | some z => (z.2, true) | none => (0, false)) = _
  rw [find_cast]
  unfold getJ
  cases ((l.getD i default).ns.zip (l.getD i default).ks).find? (fun z => decide (z.1 = t)) <;> rfl
theorem f20_jn {m : Nat} (nb : Bool) (l : List JN) (i : Nat) (t : List UInt8) (hi : i < l.length) (hl : l.length ≤ 100000) (hm : ∀ n ∈ l, NodeOk m n) : CallsP Tryd.prog 20 [.sl none nb 4 (l.map JN.av), .int .i64 (i : Int), .str t] (.tup [.int .i64 (optI (getJ l i t)), .bool (getJ l i t).isSome]) := by
  have e : (l.map JN.gn).map GN.av = l.map JN.av := by
    rw [List.map_map]
    exact List.map_congr_left fun n hn => gn_av (hm n hn)
  have h := f20_ok nb (l.map JN.gn) (i : Int) t (by rw [List.length_map]; exact hl) (fun g hg => by
    obtain ⟨n, hn, rfl⟩ := List.mem_map.1 hg
    have h1 := (hm n hn).ns
    have h2 := (hm n hn).kl
    refine ⟨by show n.ns.length ≤ 100000; omega, ?_⟩
    show (n.ks.map (fun k : Nat => (k : Int))).length ≤ 100000
    rw [List.length_map]; omega)
  rw [e, get_gn (m := m) hi] at h
  exact h
/-- A name's string. -/
def textJ (l : List JN) (i : Nat) (t : List UInt8) : Option (List UInt8) :=
  match getJ l i t with
  | some k => if (l.getD k default).k = 3 then some (l.getD k default).t else none
  | none => none
def k37_VsRGet : List Nat := [0,1,2,6,7,8,9,26]
attribute [go_sem] k37_VsRGet
theorem f37_ok (nb : Bool) (l : List JN) (i : Nat) (t : List UInt8) (hi : i < l.length) (hl : l.length ≤ 100000) (hm : ∀ n ∈ l, NodeOk l.length n) :
    CallsP Tryd.prog 37 [.sl none nb 4 (l.map JN.av), .int .i64 (i : Int), .str t] (.tup [.str ((textJ l i t).getD []), .bool (textJ l i t).isSome]) := by
  have c20 := f20_jn nb l i t hi hl hm
  unfold textJ
  cases hg : getJ l i t with
  | none =>
    rw [hg] at c20
    unfold optI at c20
    simp only [Option.isSome_none] at c20 ⊢
    refine CallsP.intro Tryd.func37 rfl (by show 3 ≤ 32; decide) ?_
    rintro X hX
    have hn : X.n = 32 := hX
    unfold Tryd.f37
    dsimp only
    rw [entry3]
    repeat' first
     | with_reducible refine Rl.go (by constructor <;> decide) ?_
     | ((with_reducible first | refine hK _ ?_ | refine hK.1 ?_ | refine hK.2 ?_); clear hK K)
     | ((with_reducible refine condS hK (fun hg => ?_) fun hg => ?_) <;> clear hK K <;> (try simp only [hgW] at hg) <;> try (exfalso; omega))
     | ((first | ((with_reducible first | refine Rk.go k37_VsRGet (by constructor) ?_); intro K hK) | with_reducible refine Rr.go [] (by constructor) ?_ | (with_reducible refine guardP_split (fun hg => ?_) fun hg => ?_) <;> (try simp only [hg]) <;> (try simp only [hgW] at hg) | refine Rc.go c20 (by constructor) ?_) <;> simp -implicitDefEqProofs only [hn, go_sem, simprocAttr] <;> try (simp (disch := omega) only [wrW]; try simp -implicitDefEqProofs only [hn, go_sem, simprocAttr]))
     | with_reducible refine And.intro (by first | omega | (simp only [hgW]; omega)) ?_
     | (exfalso; omega)
  | some k =>
    have hk := getJ_lt hm hi hg
    rw [hg] at c20
    unfold optI at c20
    simp only [Option.isSome_some] at c20 ⊢
    obtain ⟨n, hn2⟩ : ∃ n, l.getD k default = n := ⟨_, rfl⟩
    have hd := hn2
    rw [hn2]
    obtain ⟨nk, nt, nn, ns⟩ := n
    simp only
    by_cases h3 : nk = 3
    · subst h3
      rw [if_pos rfl]
      refine CallsP.intro Tryd.func37 rfl (by show 3 ≤ 32; decide) ?_
      rintro X hX
      have hn : X.n = 32 := hX
      unfold Tryd.f37
      dsimp only
      rw [entry3]
      repeat' first
       | with_reducible refine Rl.go (by constructor <;> decide) ?_
       | ((with_reducible first | refine hK _ ?_ | refine hK.1 ?_ | refine hK.2 ?_); clear hK K)
       | ((with_reducible refine condS hK (fun hg => ?_) fun hg => ?_) <;> clear hK K <;> (try simp only [hgW] at hg) <;> try (exfalso; omega))
       | ((first | ((with_reducible first | refine Rk.go k37_VsRGet (by constructor) ?_); intro K hK) | with_reducible refine Rr.go [] (by constructor) ?_ | (with_reducible refine guardP_split (fun hg => ?_) fun hg => ?_) <;> (try simp only [hg]) <;> (try simp only [hgW] at hg) | refine Rc.go c20 (by constructor) ?_) <;> simp -implicitDefEqProofs only [hd, JN.av, hn, go_sem, simprocAttr] <;> try (simp (disch := omega) only [wrW]; try simp -implicitDefEqProofs only [hd, JN.av, hn, go_sem, simprocAttr]))
       | with_reducible refine And.intro (by first | omega | (simp only [hgW]; omega)) ?_
       | (exfalso; omega)
    · rw [if_neg h3]
      refine CallsP.intro Tryd.func37 rfl (by show 3 ≤ 32; decide) ?_
      rintro X hX
      have hn : X.n = 32 := hX
      unfold Tryd.f37
      dsimp only
      rw [entry3]
      repeat' first
       | with_reducible refine Rl.go (by constructor <;> decide) ?_
       | ((with_reducible first | refine hK _ ?_ | refine hK.1 ?_ | refine hK.2 ?_); clear hK K)
       | ((with_reducible refine condS hK (fun hg => ?_) fun hg => ?_) <;> clear hK K <;> (try simp only [hgW] at hg) <;> try (exfalso; omega))
       | ((first | ((with_reducible first | refine Rk.go k37_VsRGet (by constructor) ?_); intro K hK) | with_reducible refine Rr.go [] (by constructor) ?_ | (with_reducible refine guardP_split (fun hg => ?_) fun hg => ?_) <;> (try simp only [hg]) <;> (try simp only [hgW] at hg) | refine Rc.go c20 (by constructor) ?_) <;> simp -implicitDefEqProofs only [hd, JN.av, hn, go_sem, simprocAttr] <;> try (simp (disch := omega) only [wrW]; try simp -implicitDefEqProofs only [hd, JN.av, hn, go_sem, simprocAttr]))
       | with_reducible refine And.intro (by first | omega | (simp only [hgW]; omega)) ?_
       | (exfalso; omega)
end Go.Proofs.YtfemncfhiihckaaDoor
