/- What the reader's numbers, and its bytes, come to. -/
import Derived.Test.YtijcpdgfbboamaaDoorVsCHead3
import Derived.Test.YtijcpdgfbboamaaDoorVsCRefS
import Derived.Lib.BytesEntry
import Derived.Laws.Externs
open Go Go.VS
namespace Go.Proofs.YtijcpdgfbboamaaDoor
set_option linter.unusedVariables false
set_option linter.unusedSimpArgs false
set_option maxRecDepth 20000
set_option maxHeartbeats 4000000
theorem f50_ok (s : RS) (nb : Bool) (hnb : nb = true → s.b = []) (hl : s.b.length ≤ 100000) :
    CallsB Tryd.prog 50 [.ptr 1000000 0] [s.cells nb] (.tup [.int .u8 ((headS s).1 : Int), .int .u64 ((headS s).2.1 : Int)]) [(headS s).2.2.cells nb] := by
  by_cases h : s.b = []
  · exact f50_0 s nb h
  cases nb with
  | true => exact absurd (hnb rfl) h
  | false =>
    by_cases hc : (s.b.getD 0 default).toNat % 32 < 24 ∨ (s.b.getD 0 default).toNat / 32 = 7
    · exact f50_1 s h hl hc
    by_cases hlow : 27 < (s.b.getD 0 default).toNat % 32
    · exact f50_2 s h hl hc hlow
    have h4 : (s.b.getD 0 default).toNat % 32 = 24 ∨ (s.b.getD 0 default).toNat % 32 = 25 ∨ (s.b.getD 0 default).toNat % 32 = 26 ∨ (s.b.getD 0 default).toNat % 32 = 27 := by omega
    rcases h4 with h4 | h4 | h4 | h4
    · by_cases hs : s.b.length - 1 < 1
      · exact f50_3 s 24 1 (by simp) h hl hc h4 hs
      · exact f50_4_1 s h hl hc h4 (by omega)
    · by_cases hs : s.b.length - 1 < 2
      · exact f50_3 s 25 2 (by simp) h hl hc h4 hs
      · exact f50_4_2 s h hl hc h4 (by omega)
    · by_cases hs : s.b.length - 1 < 4
      · exact f50_3 s 26 4 (by simp) h hl hc h4 hs
      · exact f50_4_4 s h hl hc h4 (by omega)
    · by_cases hs : s.b.length - 1 < 8
      · exact f50_3 s 27 8 (by simp) h hl hc h4 hs
      · exact f50_4_8 s h hl hc h4 (by omega)
def k40_VsCItem : List Nat := [0,2,4]
attribute [go_sem] k40_VsCItem
theorem f40_ok (l : List AV) (hl : l.length ≤ 100000) : CallsP Tryd.prog 40 [.sl none false 1 l] (.sl (some ((3,0),0)) false 1 l) := by
  refine CallsP.intro Tryd.func40 rfl (by show 1 ≤ 8; decide) ?_
  rintro X hX
  have hn : X.n = 8 := hX
  unfold Tryd.f40
  dsimp only
  rw [entry1]
  repeat' first
   | with_reducible refine Rl.go (by constructor <;> decide) ?_
   | ((with_reducible first | refine hK _ ?_ | refine hK.1 ?_ | refine hK.2 ?_); clear hK K)
   | ((with_reducible refine condS hK (fun hg => ?_) fun hg => ?_) <;> clear hK K <;> (try simp only [hgW] at hg) <;> try (exfalso; omega))
   | ((first | ((with_reducible first | refine Rk.go k40_VsCItem (by constructor) ?_); intro K hK) | with_reducible refine Rr.go [] (by constructor) ?_ | (with_reducible refine guardP_split (fun hg => ?_) fun hg => ?_) <;> (try simp only [hg]) <;> (try simp only [hgW] at hg)) <;> simp -implicitDefEqProofs only [hn, go_sem, simprocAttr] <;> try simp (disch := omega) only [wrW])
   | with_reducible refine And.intro (by first | omega | (simp only [hgW]; omega)) ?_
   | (exfalso; omega)
theorem f40_nil : CallsP Tryd.prog 40 [.sl none true 1 []] (.sl none true 1 []) := by
  refine CallsP.intro Tryd.func40 rfl (by show 1 ≤ 8; decide) ?_
  rintro X hX
  have hn : X.n = 8 := hX
  unfold Tryd.f40
  dsimp only
  rw [entry1]
  repeat' first
   | with_reducible refine Rl.go (by constructor <;> decide) ?_
   | ((with_reducible first | refine hK _ ?_ | refine hK.1 ?_ | refine hK.2 ?_); clear hK K)
   | ((with_reducible refine condS hK (fun hg => ?_) fun hg => ?_) <;> clear hK K <;> (try simp only [hgW] at hg) <;> try (exfalso; omega))
   | ((first | ((with_reducible first | refine Rk.go k40_VsCItem (by constructor) ?_); intro K hK) | with_reducible refine Rr.go [] (by constructor) ?_ | (with_reducible refine guardP_split (fun hg => ?_) fun hg => ?_) <;> (try simp only [hg]) <;> (try simp only [hgW] at hg)) <;> simp -implicitDefEqProofs only [hn, go_sem, simprocAttr] <;> try simp (disch := omega) only [wrW])
   | with_reducible refine And.intro (by first | omega | (simp only [hgW]; omega)) ?_
   | (exfalso; omega)
def k51_VsCItem : List Nat := [0,1,2,6,7,15,35,40]
attribute [go_sem] k51_VsCItem
theorem f51_ok {valid : List UInt8 → Bool} (hv : ∀ l : List UInt8, l.length ≤ 100000 → CallsP Tryd.prog 44 [.sl none false 1 (l.map u8)] (.bool (valid l))) (s : RS) (kind n : Nat) (hk : kind = 2 ∨ kind = 3) (hn64 : n < 18446744073709551616) (hl : s.b.length ≤ 100000) :
    CallsB Tryd.prog 51 [.ptr 1000000 0, .int .u8 (kind : Int), .int .u64 (n : Int)] [s.cells false] (bytesS valid kind n s).1.av [(bytesS valid kind n s).2.cells false] := by
  obtain ⟨b, items, err⟩ := s
  simp only at hl
  have c49 := f49_ok ⟨b, items, err⟩ false 20
  have c49' := f49_ok ⟨b.drop n, items, err⟩ false 23
  by_cases hn2 : b.length < n
  · have e : bytesS valid kind n ⟨b, items, err⟩ = (.zero, RS.fail ⟨b, items, err⟩ 20) := by unfold bytesS; rw [if_pos hn2]
    rw [e]
    refine CallsB.introF Tryd.func51 rfl (by show 3 ≤ 45; decide) ?_
    rintro X hX
    have hn : X.n = 45 := hX
    unfold Tryd.f51
    dsimp only
    rw [entryB31]
    repeat' first
     | with_reducible refine Rl.go (by constructor <;> decide) ?_
     | ((with_reducible first | refine hK _ ?_ | refine hK.1 ?_ | refine hK.2 ?_); clear hK K)
     | ((with_reducible refine condS hK (fun hg => ?_) fun hg => ?_) <;> clear hK K <;> (try simp only [hgW] at hg) <;> try (exfalso; omega))
     | ((with_reducible refine callE_B3 c49 ?_); simp -implicitDefEqProofs only [eqOk_true, RS.cells, zero_av, Int.cast_ofNat_Int, hn, go_sem, simprocAttr]; (skip; try simp (disch := omega) only [wrW]); fail_if_success (with_reducible refine eqOk_mk ?_))
     | ((first | ((with_reducible first | refine Rk.go k51_VsCItem (by constructor) ?_); intro K hK) | with_reducible refine Rr.go [] (by constructor) ?_ | (with_reducible refine guardP_split (fun hg => ?_) fun hg => ?_) <;> (try simp only [hg]) <;> (try simp only [hgW] at hg)) <;> simp -implicitDefEqProofs only [RS.cells, zero_av, Int.cast_ofNat_Int, hn, go_sem, simprocAttr] <;> try simp (disch := omega) only [wrW])
     | with_reducible refine And.intro (by first | omega | (simp only [hgW]; omega)) ?_
     | (exfalso; omega)
  have hlt : (b.take n).length ≤ 100000 := by rw [List.length_take]; omega
  have c44 := hv (b.take n) hlt
  have c40 := f40_ok ((b.take n).map u8) (by rw [List.length_map]; exact hlt)
  have e : bytesS valid kind n ⟨b, items, err⟩ = if kind = 2 then (.mk 3 0 false (b.take n) true [], ⟨b.drop n, items, err⟩) else if valid (b.take n) = false then (.zero, RS.fail ⟨b.drop n, items, err⟩ 23) else (.mk 4 0 false (b.take n) true [], ⟨b.drop n, items, err⟩) := by
    unfold bytesS; rw [if_neg hn2]
  rw [e]
  rcases hk with rfl | rfl
  · rw [if_pos rfl]
    refine CallsB.introF Tryd.func51 rfl (by show 3 ≤ 45; decide) ?_
    rintro X hX
    have hn : X.n = 45 := hX
    unfold Tryd.f51
    dsimp only
    rw [entryB31]
    repeat' first
     | with_reducible refine Rl.go (by constructor <;> decide) ?_
     | ((with_reducible first | refine hK _ ?_ | refine hK.1 ?_ | refine hK.2 ?_); clear hK K)
     | ((with_reducible refine condS hK (fun hg => ?_) fun hg => ?_) <;> clear hK K <;> (try simp only [hgW] at hg) <;> try (exfalso; omega))
     | ((with_reducible refine callE_B3 (c49') ?_); simp -implicitDefEqProofs only [eqOk_true, RS.cells, zero_av, CI.av, avs, Int.cast_ofNat_Int, hn, go_sem, simprocAttr]; (skip; try simp (disch := omega) only [wrW]); fail_if_success (with_reducible refine eqOk_mk ?_))
     | ((first | ((with_reducible first | refine Rk.go k51_VsCItem (by constructor) ?_); intro K hK) | with_reducible refine Rr.go [] (by constructor) ?_ | (with_reducible refine guardP_split (fun hg => ?_) fun hg => ?_) <;> (try simp only [hg]) <;> (try simp only [hgW] at hg) | refine Rc.go c40 (by constructor) ?_ | refine Rc.go c44 (by constructor) ?_) <;> simp -implicitDefEqProofs only [RS.cells, zero_av, CI.av, avs, Int.cast_ofNat_Int, hn, go_sem, simprocAttr] <;> try simp (disch := omega) only [wrW])
     | with_reducible refine And.intro (by first | omega | (simp only [hgW]; omega)) ?_
     | (exfalso; omega)
  · rw [if_neg (by decide)]
    cases hvv : valid (b.take n) with
    | true =>
      rw [hvv] at c44
      rw [if_neg (by simp)]
      refine CallsB.introF Tryd.func51 rfl (by show 3 ≤ 45; decide) ?_
      rintro X hX
      have hn : X.n = 45 := hX
      unfold Tryd.f51
      dsimp only
      rw [entryB31]
      repeat' first
       | with_reducible refine Rl.go (by constructor <;> decide) ?_
       | ((with_reducible first | refine hK _ ?_ | refine hK.1 ?_ | refine hK.2 ?_); clear hK K)
       | ((with_reducible refine condS hK (fun hg => ?_) fun hg => ?_) <;> clear hK K <;> (try simp only [hgW] at hg) <;> try (exfalso; omega))
       | ((with_reducible refine callE_B3 (c49') ?_); simp -implicitDefEqProofs only [eqOk_true, RS.cells, zero_av, CI.av, avs, Int.cast_ofNat_Int, hn, go_sem, simprocAttr]; (skip; try simp (disch := omega) only [wrW]); fail_if_success (with_reducible refine eqOk_mk ?_))
       | ((first | ((with_reducible first | refine Rk.go k51_VsCItem (by constructor) ?_); intro K hK) | with_reducible refine Rr.go [] (by constructor) ?_ | (with_reducible refine guardP_split (fun hg => ?_) fun hg => ?_) <;> (try simp only [hg]) <;> (try simp only [hgW] at hg) | refine Rc.go c40 (by constructor) ?_ | refine Rc.go c44 (by constructor) ?_) <;> simp -implicitDefEqProofs only [RS.cells, zero_av, CI.av, avs, Int.cast_ofNat_Int, hn, go_sem, simprocAttr] <;> try simp (disch := omega) only [wrW])
       | with_reducible refine And.intro (by first | omega | (simp only [hgW]; omega)) ?_
       | (exfalso; omega)
    | false =>
      rw [hvv] at c44
      rw [if_pos rfl]
      refine CallsB.introF Tryd.func51 rfl (by show 3 ≤ 45; decide) ?_
      rintro X hX
      have hn : X.n = 45 := hX
      unfold Tryd.f51
      dsimp only
      rw [entryB31]
      repeat' first
       | with_reducible refine Rl.go (by constructor <;> decide) ?_
       | ((with_reducible first | refine hK _ ?_ | refine hK.1 ?_ | refine hK.2 ?_); clear hK K)
       | ((with_reducible refine condS hK (fun hg => ?_) fun hg => ?_) <;> clear hK K <;> (try simp only [hgW] at hg) <;> try (exfalso; omega))
       | ((with_reducible refine callE_B3 (c49') ?_); simp -implicitDefEqProofs only [eqOk_true, RS.cells, zero_av, CI.av, avs, Int.cast_ofNat_Int, hn, go_sem, simprocAttr]; (skip; try simp (disch := omega) only [wrW]); fail_if_success (with_reducible refine eqOk_mk ?_))
       | ((first | ((with_reducible first | refine Rk.go k51_VsCItem (by constructor) ?_); intro K hK) | with_reducible refine Rr.go [] (by constructor) ?_ | (with_reducible refine guardP_split (fun hg => ?_) fun hg => ?_) <;> (try simp only [hg]) <;> (try simp only [hgW] at hg) | refine Rc.go c40 (by constructor) ?_ | refine Rc.go c44 (by constructor) ?_) <;> simp -implicitDefEqProofs only [RS.cells, zero_av, CI.av, avs, Int.cast_ofNat_Int, hn, go_sem, simprocAttr] <;> try simp (disch := omega) only [wrW])
       | with_reducible refine And.intro (by first | omega | (simp only [hgW]; omega)) ?_
       | (exfalso; omega)
end Go.Proofs.YtijcpdgfbboamaaDoor
open Go Go.VS
namespace Go.Proofs.YtijcpdgfbboamaaDoor
set_option linter.unusedVariables false
set_option linter.unusedSimpArgs false
set_option maxRecDepth 20000
set_option maxHeartbeats 4000000
theorem cmpB_eq : ∀ (a b : List UInt8), Go.Lib.compareBytes a b = cmpB a b
  | [], [] => rfl
  | [], _ :: _ => rfl
  | _ :: _, [] => rfl
  | x :: xs, y :: ys => by simp only [Go.Lib.compareBytes, cmpB, cmpB_eq xs ys]
/-- A slice of bytes that is shared, as the library's entries read it. -/
theorem bytes_read {P : Program} {w : World} {Sh : Nat → Prop} {nb : Bool} {l : List UInt8} {v : Value} (h : RepF w Sh (.sl none nb 1 (l.map u8)) v) : (Extern.Bytes.bytesOf v).run P w = .ok ⟨l.toArray⟩ w := by
  have hbs : VS.bytesOf (l.map u8) = some l := bytesOf_u8 l
  rcases h with ⟨_, h1, rfl⟩ | ⟨_, b, off, cap, vs, sp, rfl, h1, h2, h3⟩
  · have : l = [] := by simpa using h1
    subst this
    rfl
  · obtain ⟨ns, rfl, rfl⟩ := bytes_row h3 hbs
    have hlen : (((ns.map fun n => UInt8.ofNat n.toNat)).map u8).length = ns.length := by simp
    rw [hlen]
    have hr := Go.Lib.run_loadBytesX (P := P) w ns ⟨b, off, sp⟩ .empty (fun j x hj => by
      rcases h2 with h2 | ⟨rfl, _, h5⟩
      · have : ns.length = 0 := by simp only [List.length_map] at h1; omega
        have : ns = [] := List.length_eq_zero_iff.1 this
        subst this; simp at hj
      · rw [Addr.add_plain]
        exact h5 j _ (by rw [List.getElem?_map, hj]; rfl))
    show (Extern.Bytes.loadBytes _ _ _).run P w = _
    rw [hr]
    congr 1
    apply ByteArray.ext
    simp [Go.Lib.bytesOf]
theorem f66_ok (n1 n2 : Bool) (a b : List UInt8) : ExtP Tryd.prog 66 [.sl none n1 1 (a.map u8), .sl none n2 1 (b.map u8)] (.int .i64 (cmpB a b)) := by
  intro w Sh vals h
  obtain ⟨hl, hr⟩ := h
  match vals, hl with
  | [u, v], _ =>
    have h1 := bytes_read (P := Tryd.prog) (hr 0 _ u rfl rfl)
    have h2 := bytes_read (P := Tryd.prog) (hr 1 _ v rfl rfl)
    refine ⟨.int .i64 (cmpB a b), ?_, fun _ _ => rfl⟩
    rw [run_callFunc_extern Tryd.func66 (by kernel_rfl) (by kernel_rfl) (by kernel_rfl) (e := Extern.BytealgCompare.compare) (by kernel_rfl)]
    have : (Extern.BytealgCompare.compare #[u, v]).run Tryd.prog w = .ok (.int .i64 (cmpB a b)) w := by
      change Sem.run Tryd.prog (do pure (goInt (Extern.BytealgCompare.cmp (← Extern.Bytes.bytesOf u) (← Extern.Bytes.bytesOf v)))) w = _
      simp only [Sem.run_bind, h1, h2, Sem.run_pure, Result.andThen]
      rw [Go.Lib.cmp_eq, cmpB_eq]
      rfl
    rw [show #[u, v] = #[u, v] from rfl, this]
    rfl
def k62_VsCOrder : List Nat := [0,1,4]
attribute [go_sem] k62_VsCOrder
theorem f62_ok (n1 n2 : Bool) (a b : List UInt8) : CallsP Tryd.prog 62 [.sl none n1 1 (a.map u8), .sl none n2 1 (b.map u8)] (.int .i64 (cmpB a b)) := by
  refine CallsP.intro Tryd.func62 rfl (by show 2 ≤ 8; decide) ?_
  rintro X hX
  have hn : X.n = 8 := hX
  unfold Tryd.f62
  dsimp only
  rw [entry2]
  repeat' first
   | with_reducible refine Rl.go (by constructor <;> decide) ?_
   | ((with_reducible first | refine hK _ ?_ | refine hK.1 ?_ | refine hK.2 ?_); clear hK K)
   | ((with_reducible refine condS hK (fun hg => ?_) fun hg => ?_) <;> clear hK K <;> (try simp only [hgW] at hg) <;> try (exfalso; omega))
   | ((first | ((with_reducible first | refine Rk.go k62_VsCOrder (by constructor) ?_); intro K hK) | with_reducible refine Rr.go [] (by constructor) ?_ | (with_reducible refine guardP_split (fun hg => ?_) fun hg => ?_) <;> (try simp only [hg]) <;> (try simp only [hgW] at hg) | refine Rc.go (f66_ok n1 n2 a b) (by constructor) ?_) <;> simp -implicitDefEqProofs only [Int.cast_ofNat_Int, hn, go_sem, simprocAttr] <;> try simp (disch := omega) only [wrW])
   | with_reducible refine And.intro (by first | omega | (simp only [hgW]; omega)) ?_
   | (exfalso; omega)
def k63_VsCOrder : List Nat := [0,2]
attribute [go_sem] k63_VsCOrder
theorem f63_ok (x : Int) : CallsP Tryd.prog 63 [.int .u8 x] (.bool false) := by
  refine CallsP.intro Tryd.func63 rfl (by show 1 ≤ 6; decide) ?_
  rintro X hX
  have hn : X.n = 6 := hX
  unfold Tryd.f63
  dsimp only
  rw [entry1]
  repeat' first
   | with_reducible refine Rl.go (by constructor <;> decide) ?_
   | ((with_reducible first | refine hK _ ?_ | refine hK.1 ?_ | refine hK.2 ?_); clear hK K)
   | ((with_reducible refine condS hK (fun hg => ?_) fun hg => ?_) <;> clear hK K <;> (try simp only [hgW] at hg) <;> try (exfalso; omega))
   | ((first | ((with_reducible first | refine Rk.go k63_VsCOrder (by constructor) ?_); intro K hK) | with_reducible refine Rr.go [] (by constructor) ?_ | (with_reducible refine guardP_split (fun hg => ?_) fun hg => ?_) <;> (try simp only [hg]) <;> (try simp only [hgW] at hg)) <;> simp -implicitDefEqProofs only [Int.cast_ofNat_Int, hn, go_sem, simprocAttr] <;> try simp (disch := omega) only [wrW])
   | with_reducible refine And.intro (by first | omega | (simp only [hgW]; omega)) ?_
   | (exfalso; omega)
def k64_VsCOrder : List Nat := [0,2]
attribute [go_sem] k64_VsCOrder
theorem f64_ok (x : Int) : CallsP Tryd.prog 64 [.int .u64 x] (.bool false) := by
  refine CallsP.intro Tryd.func64 rfl (by show 1 ≤ 6; decide) ?_
  rintro X hX
  have hn : X.n = 6 := hX
  unfold Tryd.f64
  dsimp only
  rw [entry1]
  repeat' first
   | with_reducible refine Rl.go (by constructor <;> decide) ?_
   | ((with_reducible first | refine hK _ ?_ | refine hK.1 ?_ | refine hK.2 ?_); clear hK K)
   | ((with_reducible refine condS hK (fun hg => ?_) fun hg => ?_) <;> clear hK K <;> (try simp only [hgW] at hg) <;> try (exfalso; omega))
   | ((first | ((with_reducible first | refine Rk.go k64_VsCOrder (by constructor) ?_); intro K hK) | with_reducible refine Rr.go [] (by constructor) ?_ | (with_reducible refine guardP_split (fun hg => ?_) fun hg => ?_) <;> (try simp only [hg]) <;> (try simp only [hgW] at hg)) <;> simp -implicitDefEqProofs only [Int.cast_ofNat_Int, hn, go_sem, simprocAttr] <;> try simp (disch := omega) only [wrW])
   | with_reducible refine And.intro (by first | omega | (simp only [hgW]; omega)) ?_
   | (exfalso; omega)
def k65_VsCOrder : List Nat := [0,2]
attribute [go_sem] k65_VsCOrder
theorem f65_ok (x : Int) : CallsP Tryd.prog 65 [.int .i64 x] (.bool false) := by
  refine CallsP.intro Tryd.func65 rfl (by show 1 ≤ 6; decide) ?_
  rintro X hX
  have hn : X.n = 6 := hX
  unfold Tryd.f65
  dsimp only
  rw [entry1]
  repeat' first
   | with_reducible refine Rl.go (by constructor <;> decide) ?_
   | ((with_reducible first | refine hK _ ?_ | refine hK.1 ?_ | refine hK.2 ?_); clear hK K)
   | ((with_reducible refine condS hK (fun hg => ?_) fun hg => ?_) <;> clear hK K <;> (try simp only [hgW] at hg) <;> try (exfalso; omega))
   | ((first | ((with_reducible first | refine Rk.go k65_VsCOrder (by constructor) ?_); intro K hK) | with_reducible refine Rr.go [] (by constructor) ?_ | (with_reducible refine guardP_split (fun hg => ?_) fun hg => ?_) <;> (try simp only [hg]) <;> (try simp only [hgW] at hg)) <;> simp -implicitDefEqProofs only [Int.cast_ofNat_Int, hn, go_sem, simprocAttr] <;> try simp (disch := omega) only [wrW])
   | with_reducible refine And.intro (by first | omega | (simp only [hgW]; omega)) ?_
   | (exfalso; omega)
def k59_VsCOrder : List Nat := [0,1,4,5,6,11,12,13,16,19]
attribute [go_sem] k59_VsCOrder
theorem f59_ok (x y : Nat) : CallsP Tryd.prog 59 [.int .u8 (x : Int), .int .u8 (y : Int)] (.int .i64 (cmpN x y)) := by
  have e : cmpN x y = if x < y then -1 else if y < x then 1 else 0 := rfl
  refine CallsP.intro Tryd.func59 rfl (by show 2 ≤ 20; decide) ?_
  rintro X hX
  have hn : X.n = 20 := hX
  unfold Tryd.f59
  dsimp only
  rw [entry2]
  repeat' first
   | with_reducible refine Rl.go (by constructor <;> decide) ?_
   | ((with_reducible first | refine hK _ ?_ | refine hK.1 ?_ | refine hK.2 ?_); clear hK K)
   | ((with_reducible refine condS hK (fun hg => ?_) fun hg => ?_) <;> clear hK K <;> (try simp only [hgW] at hg) <;> try (exfalso; omega))
   | ((first | ((with_reducible first | refine Rk.go k59_VsCOrder (by constructor) ?_); intro K hK) | with_reducible refine Rr.go [] (by constructor) ?_ | (with_reducible refine guardP_split (fun hg => ?_) fun hg => ?_) <;> (try simp only [hg]) <;> (try simp only [hgW] at hg) | refine Rc.go (f63_ok x) (by constructor) ?_ | refine Rc.go (f63_ok y) (by constructor) ?_) <;> simp -implicitDefEqProofs only [Int.cast_ofNat_Int, hn, go_sem, simprocAttr] <;> try simp (disch := omega) only [wrW])
   | with_reducible refine And.intro (by first | omega | (simp only [hgW]; omega)) ?_
   | (exfalso; omega)
  all_goals rw [e]
  all_goals repeat (first | rw [if_pos (by omega)] | rw [if_neg (by omega)])
def k60_VsCOrder : List Nat := [0,1,4,5,6,11,12,13,16,19]
attribute [go_sem] k60_VsCOrder
theorem f60_ok (x y : Nat) : CallsP Tryd.prog 60 [.int .u64 (x : Int), .int .u64 (y : Int)] (.int .i64 (cmpN x y)) := by
  have e : cmpN x y = if x < y then -1 else if y < x then 1 else 0 := rfl
  refine CallsP.intro Tryd.func60 rfl (by show 2 ≤ 20; decide) ?_
  rintro X hX
  have hn : X.n = 20 := hX
  unfold Tryd.f60
  dsimp only
  rw [entry2]
  repeat' first
   | with_reducible refine Rl.go (by constructor <;> decide) ?_
   | ((with_reducible first | refine hK _ ?_ | refine hK.1 ?_ | refine hK.2 ?_); clear hK K)
   | ((with_reducible refine condS hK (fun hg => ?_) fun hg => ?_) <;> clear hK K <;> (try simp only [hgW] at hg) <;> try (exfalso; omega))
   | ((first | ((with_reducible first | refine Rk.go k60_VsCOrder (by constructor) ?_); intro K hK) | with_reducible refine Rr.go [] (by constructor) ?_ | (with_reducible refine guardP_split (fun hg => ?_) fun hg => ?_) <;> (try simp only [hg]) <;> (try simp only [hgW] at hg) | refine Rc.go (f64_ok x) (by constructor) ?_ | refine Rc.go (f64_ok y) (by constructor) ?_) <;> simp -implicitDefEqProofs only [Int.cast_ofNat_Int, hn, go_sem, simprocAttr] <;> try simp (disch := omega) only [wrW])
   | with_reducible refine And.intro (by first | omega | (simp only [hgW]; omega)) ?_
   | (exfalso; omega)
  all_goals rw [e]
  all_goals repeat (first | rw [if_pos (by omega)] | rw [if_neg (by omega)])
def k61_VsCOrder : List Nat := [0,1,4,5,6,11,12,13,16,19]
attribute [go_sem] k61_VsCOrder
theorem f61_ok (x y : Nat) : CallsP Tryd.prog 61 [.int .i64 (x : Int), .int .i64 (y : Int)] (.int .i64 (cmpN x y)) := by
  have e : cmpN x y = if x < y then -1 else if y < x then 1 else 0 := rfl
  refine CallsP.intro Tryd.func61 rfl (by show 2 ≤ 20; decide) ?_
  rintro X hX
  have hn : X.n = 20 := hX
  unfold Tryd.f61
  dsimp only
  rw [entry2]
  repeat' first
   | with_reducible refine Rl.go (by constructor <;> decide) ?_
   | ((with_reducible first | refine hK _ ?_ | refine hK.1 ?_ | refine hK.2 ?_); clear hK K)
   | ((with_reducible refine condS hK (fun hg => ?_) fun hg => ?_) <;> clear hK K <;> (try simp only [hgW] at hg) <;> try (exfalso; omega))
   | ((first | ((with_reducible first | refine Rk.go k61_VsCOrder (by constructor) ?_); intro K hK) | with_reducible refine Rr.go [] (by constructor) ?_ | (with_reducible refine guardP_split (fun hg => ?_) fun hg => ?_) <;> (try simp only [hg]) <;> (try simp only [hgW] at hg) | refine Rc.go (f65_ok x) (by constructor) ?_ | refine Rc.go (f65_ok y) (by constructor) ?_) <;> simp -implicitDefEqProofs only [Int.cast_ofNat_Int, hn, go_sem, simprocAttr] <;> try simp (disch := omega) only [wrW])
   | with_reducible refine And.intro (by first | omega | (simp only [hgW]; omega)) ?_
   | (exfalso; omega)
  all_goals rw [e]
  all_goals repeat (first | rw [if_pos (by omega)] | rw [if_neg (by omega)])
def k57_VsCOrder : List Nat := [0,1,2]
attribute [go_sem] k57_VsCOrder
theorem f57_ok (i : CI) : CallsP Tryd.prog 57 [i.av] (.bool (plainS i)) := by
  obtain ⟨k, n, bn, b, kn, ks⟩ := i
  have e : plainS (.mk k n bn b kn ks) = (decide (1 ≤ k) && decide (k ≤ 4)) := rfl
  simp only [CI.av]
  refine CallsP.intro Tryd.func57 rfl (by show 1 ≤ 11; decide) ?_
  rintro X hX
  have hn : X.n = 11 := hX
  unfold Tryd.f57
  dsimp only
  rw [entry1]
  repeat' first
   | with_reducible refine Rl.go (by constructor <;> decide) ?_
   | ((with_reducible first | refine hK _ ?_ | refine hK.1 ?_ | refine hK.2 ?_); clear hK K)
   | ((with_reducible refine condS hK (fun hg => ?_) fun hg => ?_) <;> clear hK K <;> (try simp only [hgW] at hg) <;> try (exfalso; omega))
   | ((first | ((with_reducible first | refine Rk.go k57_VsCOrder (by constructor) ?_); intro K hK) | with_reducible refine Rr.go [] (by constructor) ?_ | (with_reducible refine guardP_split (fun hg => ?_) fun hg => ?_) <;> (try simp only [hg]) <;> (try simp only [hgW] at hg)) <;> simp -implicitDefEqProofs only [Int.cast_ofNat_Int, hn, go_sem, simprocAttr] <;> try simp (disch := omega) only [wrW])
   | with_reducible refine And.intro (by first | omega | (simp only [hgW]; omega)) ?_
   | (exfalso; omega)
  · rw [e, decide_eq_true (show 1 ≤ k by omega), Bool.true_and]
    congr 1
    exact decide_eq_decide.2 (by omega)
  · rw [e, decide_eq_false (show ¬ 1 ≤ k by omega), Bool.false_and]
def k58_VsCOrder : List Nat := [0,1,2,3,4,9,17,29]
attribute [go_sem] k58_VsCOrder
theorem f58_ok (i j : CI) : CallsP Tryd.prog 58 [i.av, j.av] (.int .i64 (orderS i j)) := by
  obtain ⟨k, n, bn, b, kn, ks⟩ := i
  obtain ⟨k', n', bn', b', kn', ks'⟩ := j
  have e : orderS (.mk k n bn b kn ks) (.mk k' n' bn' b' kn' ks') = if k ≠ k' then cmpN k k' else if k ≤ 2 then cmpN n n' else if b.length ≠ b'.length then cmpN b.length b'.length else cmpB b b' := rfl
  simp only [CI.av]
  refine CallsP.intro Tryd.func58 rfl (by show 2 ≤ 42; decide) ?_
  rintro X hX
  have hn : X.n = 42 := hX
  unfold Tryd.f58
  dsimp only
  rw [entry2]
  repeat' first
   | with_reducible refine Rl.go (by constructor <;> decide) ?_
   | ((with_reducible first | refine hK _ ?_ | refine hK.1 ?_ | refine hK.2 ?_); clear hK K)
   | ((with_reducible refine condS hK (fun hg => ?_) fun hg => ?_) <;> clear hK K <;> (try simp only [hgW] at hg) <;> try (exfalso; omega))
   | ((first | ((with_reducible first | refine Rk.go k58_VsCOrder (by constructor) ?_); intro K hK) | with_reducible refine Rr.go [] (by constructor) ?_ | (with_reducible refine guardP_split (fun hg => ?_) fun hg => ?_) <;> (try simp only [hg]) <;> (try simp only [hgW] at hg) | refine Rc.go (f59_ok k k') (by constructor) ?_ | refine Rc.go (f60_ok n n') (by constructor) ?_ | refine Rc.go (f61_ok b.length b'.length) (by constructor) ?_ | refine Rc.go (f62_ok bn bn' b b') (by constructor) ?_) <;> simp -implicitDefEqProofs only [Int.cast_ofNat_Int, hn, go_sem, simprocAttr] <;> try simp (disch := omega) only [wrW])
   | with_reducible refine And.intro (by first | omega | (simp only [hgW]; omega)) ?_
   | (exfalso; omega)
  all_goals rw [e]
  all_goals repeat (first | rw [if_pos (by omega)] | rw [if_neg (by omega)])
end Go.Proofs.YtijcpdgfbboamaaDoor
open Go Go.VS
namespace Go.Proofs.YtijcpdgfbboamaaDoor
set_option linter.unusedVariables false
set_option linter.unusedSimpArgs false
set_option maxRecDepth 20000
set_option maxHeartbeats 4000000
theorem av_mk (k n : Nat) (bn : Bool) (b : List UInt8) (kn : Bool) (ks : List CI) : (CI.mk k n bn b kn ks).av = .agg [.int .u8 (k : Int), .int .u64 (n : Int), .sl none bn 1 (b.map u8), .sl none kn 4 (ks.map CI.av)] := by
  rw [CI.av, avs_map]
/-- The contract of one item, at a depth. -/
def ItOk (it : RS → CI × RS) (deep : Nat) : Prop := ∀ s : RS, s.b.length ≤ 100000 → s.items ≤ 10000 → CallsB Tryd.prog 39 [.ptr 1000000 0, .int .i64 (deep : Int)] [s.cells false] (it s).1.av [(it s).2.cells false]
structure ArrI (it : RS → CI × RS) (n : Nat) (R : CI × RS) (x : Nat × RS × List CI) : Prop where
  le : x.1 ≤ n
  eq : arrS it (n - x.1) x.2.1 x.2.2 = R
  err : x.2.1.err = 0
  items : x.2.1.items ≤ 512
  len : x.2.1.b.length ≤ 100000
  kids : x.2.2.length ≤ x.2.1.items
def k52_VsCArr : List Nat := [0,1,2,6,7,8,10,11,12,20]
attribute [go_sem] k52_VsCArr
theorem f52_ok {it : RS → CI × RS} {m : Nat} (K : Keeps it m) (deep : Nat) (hit : ItOk it deep) (n : Nat) (hn64 : n < 18446744073709551616) (s : RS) (he : s.err = 0) (hi : s.items ≤ 512) (hl : s.b.length ≤ 100000) :
    CallsB Tryd.prog 52 [.ptr 1000000 0, .int .u64 (n : Int), .int .i64 (deep : Int)] [s.cells false] (arrS it n s []).1.av [(arrS it n s []).2.cells false] := by
  obtain ⟨R, hR⟩ : ∃ R, arrS it n s [] = R := ⟨_, rfl⟩
  rw [hR]
  refine CallsB.introF Tryd.func52 rfl (by show 3 ≤ 30; decide) ?_
  rintro X hX
  have hn : X.n = 30 := hX
  unfold Tryd.f52
  dsimp only
  rw [entryB31]
  repeat' first
   | with_reducible refine Rl.go (by constructor <;> decide) ?_
   | ((with_reducible first | refine hK _ ?_ | refine hK.1 ?_ | refine hK.2 ?_); clear hK K)
   | ((with_reducible refine condS hK (fun hg => ?_) fun hg => ?_) <;> clear hK K <;> (try simp only [hgW] at hg) <;> try (exfalso; omega))
   | ((first | ((with_reducible first | refine Rk.go k52_VsCArr (by constructor) ?_); intro K hK) | with_reducible refine Rr.go [] (by constructor) ?_ | (with_reducible refine guardP_split (fun hg => ?_) fun hg => ?_) <;> (try simp only [hg]) <;> (try simp only [hgW] at hg)) <;> simp -implicitDefEqProofs only [RS.cells, Int.cast_ofNat_Int, hn, go_sem, simprocAttr] <;> try simp (disch := omega) only [wrW])
   | with_reducible refine And.intro (by first | omega | (simp only [hgW]; omega)) ?_
   | (exfalso; omega)
  refine AWP.adoptB 7 3 (0, 999) 0 4 (by rfl) (by rfl) ?_
  refine AWP.loopX [0, 1, 2, 6, 7, 10, 11] [8] (fun x : Nat × RS × List CI => St.mk (lk [(0, .ptr 1000000 0), (1, .int .u64 (n : Int)), (2, .int .i64 (deep : Int)), (6, .ptr 6 0), (7, .ptr 7 0), (10, .int .u64 (n : Int)), (11, .int .u64 (x.1 : Int))])
      (lkB [(1000000, x.2.1.cells false), (6, [.int .u8 0, .int .u64 0, .sl none true 1 [], .sl none true 4 []]), (7, [.int .u8 5, .int .u64 0, .sl none true 1 [], .sl (some ((0, 999), 0)) x.2.2.isEmpty 4 (x.2.2.map CI.av)])]) (hasS []) (hasS []) (hasN []) (lkR []))
    (ArrI it n R) (fun x => n - x.1) (0, s, []) ?_ ⟨Nat.zero_le _, hR, he, hi, hl, Nat.zero_le _⟩ ?_
  · simp -implicitDefEqProofs only [RS.cells, Int.cast_ofNat_Int, hn, go_sem, simprocAttr]
    try rfl
  rintro ⟨k, ⟨b, items, err⟩, ks⟩ hx
  obtain ⟨x1, x2, x3, x4, x5, x6⟩ := hx
  simp only at x1 x2 x3 x4 x5 x6
  subst x3
  by_cases hkn : k = n
  · subst hkn
    rw [Nat.sub_self] at x2
    simp only [arrS] at x2
    subst x2
    repeat' first
     | with_reducible refine Rl.go (by constructor <;> decide) ?_
     | ((with_reducible first | refine hK _ ?_ | refine hK.1 ?_ | refine hK.2 ?_); clear hK K)
     | ((with_reducible refine condS hK (fun hg => ?_) fun hg => ?_) <;> clear hK K <;> (try simp only [hgW] at hg) <;> try (exfalso; omega))
     | ((first | ((with_reducible first | refine Rk.go k52_VsCArr (by constructor) ?_); intro K hK) | with_reducible refine Rr.go [] (by constructor) ?_ | (with_reducible refine guardP_split (fun hg => ?_) fun hg => ?_) <;> (try simp only [hg]) <;> (try simp only [hgW] at hg)) <;> simp -implicitDefEqProofs only [RS.cells, av_mk, Int.cast_ofNat_Int, hn, go_sem, simprocAttr] <;> try simp (disch := omega) only [wrW])
     | with_reducible refine And.intro (by first | omega | (simp only [hgW]; omega)) ?_
     | (exfalso; omega)
  · have hx0 : n - k = (n - (k + 1)) + 1 := by omega
    rw [hx0] at x2
    simp only [arrS] at x2
    have c39 := hit ⟨b, items, 0⟩ x5 (by simp only; omega)
    have k1 := K.len ⟨b, items, 0⟩
    have k2 := K.more ⟨b, items, 0⟩
    have k3 := K.good ⟨b, items, 0⟩
    generalize it ⟨b, items, 0⟩ = p at *
    obtain ⟨⟨ki, ni, bni, bi, kni, kids⟩, ⟨b', items', err'⟩⟩ := p
    simp only at *
    by_cases he' : err' = 0
    · subst he'
      simp only [ne_eq, not_true_eq_false, if_false] at x2
      repeat' first
       | with_reducible refine Rl.go (by constructor <;> decide) ?_
       | ((with_reducible first | refine hK _ ?_ | refine hK.1 ?_ | refine hK.2 ?_); clear hK K)
       | ((with_reducible refine condS hK (fun hg => ?_) fun hg => ?_) <;> clear hK K <;> (try simp only [hgW] at hg) <;> try (exfalso; omega))
       | ((with_reducible refine callE_B3 c39 ?_); simp -implicitDefEqProofs only [eqOk_true, RS.cells, av_mk, Int.cast_ofNat_Int, hn, go_sem, simprocAttr]; (skip; try simp (disch := omega) only [wrW]); fail_if_success (with_reducible refine eqOk_mk ?_))
       | ((first | ((with_reducible first | refine Rk.go k52_VsCArr (by constructor) ?_); intro K hK) | with_reducible refine Rr.go [] (by constructor) ?_ | (with_reducible refine guardP_split (fun hg => ?_) fun hg => ?_) <;> (try simp only [hg]) <;> (try simp only [hgW] at hg)) <;> simp -implicitDefEqProofs only [RS.cells, av_mk, Int.cast_ofNat_Int, hn, go_sem, simprocAttr] <;> try simp (disch := omega) only [wrW])
       | with_reducible refine And.intro (by first | omega | (simp only [hgW]; omega)) ?_
       | (exfalso; omega)
      refine ⟨(k + 1, ⟨b', items', 0⟩, ks ++ [CI.mk ki ni bni bi kni kids]), ?_, ⟨by simp only; omega, x2, rfl, (k3 rfl).2, by simp only; omega, by simp only [List.length_append, List.length_cons, List.length_nil]; omega⟩, by simp only; omega⟩
      have e1 : ks.map CI.av ++ [AV.agg [.int .u8 (ki : Int), .int .u64 (ni : Int), .sl none bni 1 (bi.map u8), .sl none kni 4 (kids.map CI.av)]] = (ks ++ [CI.mk ki ni bni bi kni kids]).map CI.av := by
        rw [List.map_append, List.map_cons, List.map_nil, av_mk]
      have e2 : (k : Int) + 1 = ((k + 1 : Nat) : Int) := by omega
      have e3 : (ks ++ [CI.mk ki ni bni bi kni kids]).isEmpty = false := by simp
      rw [e1, e2]
      simp -implicitDefEqProofs only [RS.cells, e3, Int.cast_ofNat_Int, hn, go_sem, simprocAttr]
      try rfl
    · rw [if_pos he'] at x2
      subst x2
      repeat' first
       | with_reducible refine Rl.go (by constructor <;> decide) ?_
       | ((with_reducible first | refine hK _ ?_ | refine hK.1 ?_ | refine hK.2 ?_); clear hK K)
       | ((with_reducible refine condS hK (fun hg => ?_) fun hg => ?_) <;> clear hK K <;> (try simp only [hgW] at hg) <;> try (exfalso; omega))
       | ((with_reducible refine callE_B3 c39 ?_); simp -implicitDefEqProofs only [eqOk_true, RS.cells, av_mk, zero_av, Int.cast_ofNat_Int, hn, go_sem, simprocAttr]; (skip; try simp (disch := omega) only [wrW]); fail_if_success (with_reducible refine eqOk_mk ?_))
       | ((first | ((with_reducible first | refine Rk.go k52_VsCArr (by constructor) ?_); intro K hK) | with_reducible refine Rr.go [] (by constructor) ?_ | (with_reducible refine guardP_split (fun hg => ?_) fun hg => ?_) <;> (try simp only [hg]) <;> (try simp only [hgW] at hg)) <;> simp -implicitDefEqProofs only [RS.cells, av_mk, zero_av, Int.cast_ofNat_Int, hn, go_sem, simprocAttr] <;> try simp (disch := omega) only [wrW])
       | with_reducible refine And.intro (by first | omega | (simp only [hgW]; omega)) ?_
       | (exfalso; omega)
end Go.Proofs.YtijcpdgfbboamaaDoor
