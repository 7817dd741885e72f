/- A store of one credential. -/
import Derived.Test.YtafapnmnkmidkaaVsTy
import Derived.Test.YtafapnmnkmidkaaVsRebox
import Derived.Lib.BytesEntry
import Derived.Laws.Externs
open Go Go.VS
namespace Go.Proofs.Ytafapnmnkmidkaa
set_option linter.unusedVariables false
set_option linter.unusedSimpArgs false
set_option maxRecDepth 20000
set_option maxHeartbeats 4000000
/-- How two rows of bytes stand to one another. -/
def cmpB : List UInt8 → List UInt8 → Int
  | [], [] => 0
  | [], _ :: _ => -1
  | _ :: _, [] => 1
  | x :: xs, y :: ys => if x < y then -1 else if y < x then 1 else cmpB xs ys
theorem cmpB_eq : ∀ (a b : List UInt8), Go.Lib.compareBytes a b = cmpB a b
  | [], [] => rfl
  | [], _ :: _ => rfl
  | _ :: _, [] => rfl
  | x :: xs, y :: ys => by simp only [Go.Lib.compareBytes, cmpB, cmpB_eq xs ys]
theorem cmpB_self : ∀ a : List UInt8, cmpB a a = 0
  | [] => rfl
  | x :: xs => by simp only [cmpB]; rw [if_neg (by simp), if_neg (by simp)]; exact cmpB_self xs
/-- A slice of bytes that is shared, as the library's entries read it. -/
theorem bytes_read {P : Program} {w : World} {Sh : Nat → Prop} {nb : Bool} {l : List UInt8} {v : Value} (h : RepF w Sh (.sl none nb 1 (l.map u8)) v) : (Extern.Bytes.bytesOf v).run P w = .ok ⟨l.toArray⟩ w := by
  have hbs : VS.bytesOf (l.map u8) = some l := bytesOf_u8 l
  rcases h with ⟨_, h1, rfl⟩ | ⟨_, b, off, cap, vs, sp, rfl, h1, h2, h3⟩
  · have : l = [] := by simpa using h1
    subst this
    rfl
  · obtain ⟨ns, rfl, rfl⟩ := bytes_row h3 hbs
    have hlen : (((ns.map fun n => UInt8.ofNat n.toNat)).map u8).length = ns.length := by simp
    rw [hlen]
    have hr := Go.Lib.run_loadBytesX (P := P) w ns ⟨b, off, sp⟩ .empty (fun j x hj => by
      rcases h2 with h2 | ⟨rfl, _, h5⟩
      · have : ns.length = 0 := by simp only [List.length_map] at h1; omega
        have : ns = [] := List.length_eq_zero_iff.1 this
        subst this; simp at hj
      · rw [Addr.add_plain]
        exact h5 j _ (by rw [List.getElem?_map, hj]; rfl))
    show (Extern.Bytes.loadBytes _ _ _).run P w = _
    rw [hr]
    congr 1
    apply ByteArray.ext
    simp [Go.Lib.bytesOf]
theorem f61_ok (n1 n2 : Bool) (a b : List UInt8) : ExtP Try.prog 61 [.sl none n1 1 (a.map u8), .sl none n2 1 (b.map u8)] (.int .i64 (cmpB a b)) := by
  intro w Sh vals h
  obtain ⟨hl, hr⟩ := h
  match vals, hl with
  | [u, v], _ =>
    have h1 := bytes_read (P := Try.prog) (hr 0 _ u rfl rfl)
    have h2 := bytes_read (P := Try.prog) (hr 1 _ v rfl rfl)
    refine ⟨.int .i64 (cmpB a b), ?_, fun _ _ => rfl⟩
    rw [run_callFunc_extern Try.func61 (by kernel_rfl) (by kernel_rfl) (by kernel_rfl) (e := Extern.BytealgCompare.compare) (by kernel_rfl)]
    have : (Extern.BytealgCompare.compare #[u, v]).run Try.prog w = .ok (.int .i64 (cmpB a b)) w := by
      change Sem.run Try.prog (do pure (goInt (Extern.BytealgCompare.cmp (← Extern.Bytes.bytesOf u) (← Extern.Bytes.bytesOf v)))) w = _
      simp only [Sem.run_bind, h1, h2, Sem.run_pure, Result.andThen]
      rw [Go.Lib.cmp_eq, cmpB_eq]
      rfl
    rw [show #[u, v] = #[u, v] from rfl, this]
    rfl
def k50_VsCOne : List Nat := [0,1,4]
attribute [go_sem] k50_VsCOne
theorem f50_ok (n1 n2 : Bool) (a b : List UInt8) : CallsP Try.prog 50 [.sl none n1 1 (a.map u8), .sl none n2 1 (b.map u8)] (.int .i64 (cmpB a b)) := by
  refine CallsP.intro Try.func50 rfl (by show 2 ≤ 8; decide) ?_
  rintro X hX
  have hn : X.n = 8 := hX
  unfold Try.f50
  dsimp only
  rw [entry2]
  repeat' first
   | with_reducible refine Rl.go (by constructor <;> decide) ?_
   | ((with_reducible first | refine hK _ ?_ | refine hK.1 ?_ | refine hK.2 ?_); clear hK K)
   | ((with_reducible refine condS hK (fun hg => ?_) fun hg => ?_) <;> clear hK K <;> (try simp only [hgW] at hg) <;> try (exfalso; omega))
   | ((first | ((with_reducible first | refine Rk.go k50_VsCOne (by constructor) ?_); intro K hK) | with_reducible refine Rr.go [] (by constructor) ?_ | (with_reducible refine guardP_split (fun hg => ?_) fun hg => ?_) <;> (try simp only [hg]) <;> (try simp only [hgW] at hg) | refine Rc.go (f61_ok n1 n2 a b) (by constructor) ?_) <;> simp -implicitDefEqProofs only [Int.cast_ofNat_Int, hn, go_sem, simprocAttr] <;> try simp (disch := omega) only [wrW])
   | with_reducible refine And.intro (by first | omega | (simp only [hgW]; omega)) ?_
   | (exfalso; omega)
def k53_VsCOne : List Nat := [0,2,4]
attribute [go_sem] k53_VsCOne
theorem f53_ok (l : List AV) (hl : l.length ≤ 100000) : CallsP Try.prog 53 [.sl none false 1 l] (.sl (some ((3,0),0)) false 1 l) := by
  refine CallsP.intro Try.func53 rfl (by show 1 ≤ 8; decide) ?_
  rintro X hX
  have hn : X.n = 8 := hX
  unfold Try.f53
  dsimp only
  rw [entry1]
  repeat' first
   | with_reducible refine Rl.go (by constructor <;> decide) ?_
   | ((with_reducible first | refine hK _ ?_ | refine hK.1 ?_ | refine hK.2 ?_); clear hK K)
   | ((with_reducible refine condS hK (fun hg => ?_) fun hg => ?_) <;> clear hK K <;> (try simp only [hgW] at hg) <;> try (exfalso; omega))
   | ((first | ((with_reducible first | refine Rk.go k53_VsCOne (by constructor) ?_); intro K hK) | with_reducible refine Rr.go [] (by constructor) ?_ | (with_reducible refine guardP_split (fun hg => ?_) fun hg => ?_) <;> (try simp only [hg]) <;> (try simp only [hgW] at hg)) <;> simp -implicitDefEqProofs only [Int.cast_ofNat_Int, hn, go_sem, simprocAttr] <;> try simp (disch := omega) only [wrW])
   | with_reducible refine And.intro (by first | omega | (simp only [hgW]; omega)) ?_
   | (exfalso; omega)
theorem f53_nil : CallsP Try.prog 53 [.sl none true 1 []] (.sl none true 1 []) := by
  refine CallsP.intro Try.func53 rfl (by show 1 ≤ 8; decide) ?_
  rintro X hX
  have hn : X.n = 8 := hX
  unfold Try.f53
  dsimp only
  rw [entry1]
  repeat' first
   | with_reducible refine Rl.go (by constructor <;> decide) ?_
   | ((with_reducible first | refine hK _ ?_ | refine hK.1 ?_ | refine hK.2 ?_); clear hK K)
   | ((with_reducible refine condS hK (fun hg => ?_) fun hg => ?_) <;> clear hK K <;> (try simp only [hgW] at hg) <;> try (exfalso; omega))
   | ((first | ((with_reducible first | refine Rk.go k53_VsCOne (by constructor) ?_); intro K hK) | with_reducible refine Rr.go [] (by constructor) ?_ | (with_reducible refine guardP_split (fun hg => ?_) fun hg => ?_) <;> (try simp only [hg]) <;> (try simp only [hgW] at hg)) <;> simp -implicitDefEqProofs only [Int.cast_ofNat_Int, hn, go_sem, simprocAttr] <;> try simp (disch := omega) only [wrW])
   | with_reducible refine And.intro (by first | omega | (simp only [hgW]; omega)) ?_
   | (exfalso; omega)
def k54_VsCOne : List Nat := [0,2,4]
attribute [go_sem] k54_VsCOne
theorem f54_ok (l : List AV) (hl : l.length ≤ 100000) : CallsP Try.prog 54 [.sl none false 1 l] (.sl (some ((3,0),0)) false 1 l) := by
  refine CallsP.intro Try.func54 rfl (by show 1 ≤ 8; decide) ?_
  rintro X hX
  have hn : X.n = 8 := hX
  unfold Try.f54
  dsimp only
  rw [entry1]
  repeat' first
   | with_reducible refine Rl.go (by constructor <;> decide) ?_
   | ((with_reducible first | refine hK _ ?_ | refine hK.1 ?_ | refine hK.2 ?_); clear hK K)
   | ((with_reducible refine condS hK (fun hg => ?_) fun hg => ?_) <;> clear hK K <;> (try simp only [hgW] at hg) <;> try (exfalso; omega))
   | ((first | ((with_reducible first | refine Rk.go k54_VsCOne (by constructor) ?_); intro K hK) | with_reducible refine Rr.go [] (by constructor) ?_ | (with_reducible refine guardP_split (fun hg => ?_) fun hg => ?_) <;> (try simp only [hg]) <;> (try simp only [hgW] at hg)) <;> simp -implicitDefEqProofs only [Int.cast_ofNat_Int, hn, go_sem, simprocAttr] <;> try simp (disch := omega) only [wrW])
   | with_reducible refine And.intro (by first | omega | (simp only [hgW]; omega)) ?_
   | (exfalso; omega)
theorem f54_nil : CallsP Try.prog 54 [.sl none true 1 []] (.sl none true 1 []) := by
  refine CallsP.intro Try.func54 rfl (by show 1 ≤ 8; decide) ?_
  rintro X hX
  have hn : X.n = 8 := hX
  unfold Try.f54
  dsimp only
  rw [entry1]
  repeat' first
   | with_reducible refine Rl.go (by constructor <;> decide) ?_
   | ((with_reducible first | refine hK _ ?_ | refine hK.1 ?_ | refine hK.2 ?_); clear hK K)
   | ((with_reducible refine condS hK (fun hg => ?_) fun hg => ?_) <;> clear hK K <;> (try simp only [hgW] at hg) <;> try (exfalso; omega))
   | ((first | ((with_reducible first | refine Rk.go k54_VsCOne (by constructor) ?_); intro K hK) | with_reducible refine Rr.go [] (by constructor) ?_ | (with_reducible refine guardP_split (fun hg => ?_) fun hg => ?_) <;> (try simp only [hg]) <;> (try simp only [hgW] at hg)) <;> simp -implicitDefEqProofs only [Int.cast_ofNat_Int, hn, go_sem, simprocAttr] <;> try simp (disch := omega) only [wrW])
   | with_reducible refine And.intro (by first | omega | (simp only [hgW]; omega)) ?_
   | (exfalso; omega)
/-- A credential of an id and a count. -/
def crL (id : AV) (cnt : Int) (fl : Bool) : List AV := [id, .str [117], .int .u8 0, .int .i64 0, .sl none true 1 [], .sl none true 1 [], .bool false, .sl none true 1 [], .sl none true 1 [], .int .u32 cnt, .int .u8 0, .bool fl]
def idA (ids : List UInt8) : AV := .sl none false 1 (ids.map u8)
def k49_VsCOne : List Nat := [0,1,2,4]
attribute [go_sem] k49_VsCOne
theorem f49_ok (ids tg : List UInt8) (cnt : Int) (fl : Bool) : CallsP Try.prog 49 [.agg (crL (idA ids) cnt fl), idA tg] (.int .i64 (cmpB ids tg)) := by
  unfold crL idA
  refine CallsP.intro Try.func49 rfl (by show 2 ≤ 9; decide) ?_
  rintro X hX
  have hn : X.n = 9 := hX
  unfold Try.f49
  dsimp only
  rw [entry2]
  repeat' first
   | with_reducible refine Rl.go (by constructor <;> decide) ?_
   | ((with_reducible first | refine hK _ ?_ | refine hK.1 ?_ | refine hK.2 ?_); clear hK K)
   | ((with_reducible refine condS hK (fun hg => ?_) fun hg => ?_) <;> clear hK K <;> (try simp only [hgW] at hg) <;> try (exfalso; omega))
   | ((first | ((with_reducible first | refine Rk.go k49_VsCOne (by constructor) ?_); intro K hK) | with_reducible refine Rr.go [] (by constructor) ?_ | (with_reducible refine guardP_split (fun hg => ?_) fun hg => ?_) <;> (try simp only [hg]) <;> (try simp only [hgW] at hg) | refine Rc.go (f50_ok false false ids tg) (by constructor) ?_) <;> simp -implicitDefEqProofs only [Int.cast_ofNat_Int, hn, go_sem, simprocAttr] <;> try simp (disch := omega) only [wrW])
   | with_reducible refine And.intro (by first | omega | (simp only [hgW]; omega)) ?_
   | (exfalso; omega)
  all_goals trace_state
def k30_VsCOne : List Nat := [0,1,2]
def a30_2_VsCOne : List Nat := [0,1,3,7,15,0,32,96,224,511,511,1535,3583,8191,16383,32767,65535,131071]
def o30_2_VsCOne : List Nat := [0,1,2,3,4,5,6,7,8,9,10,11,12,13,14,15,16,17]
def a30_3_VsCOne : List Nat := [0,1,3,7,15,0,32,96,224,511,511,1535,3583,8191,16383,32767,65535,131071]
def o30_3_VsCOne : List Nat := [0,1,2,3,4,5,6,7,8,9,10,11,12,13,14,15,16,17]
attribute [go_sem] k30_VsCOne a30_2_VsCOne o30_2_VsCOne a30_3_VsCOne o30_3_VsCOne
theorem f30_ok (ids : List UInt8) (hl : ids.length ≤ 1000) (cnt : Int) (fl : Bool) : CallsP Try.prog 30 [.agg (crL (idA ids) cnt fl)] (.agg (crL (.sl (some ((3, 0), 0)) false 1 (ids.map u8)) cnt fl)) := by
  unfold crL idA
  refine CallsP.intro Try.func30 rfl (by show 1 ≤ 40; decide) ?_
  rintro X hX
  have hn : X.n = 40 := hX
  unfold Try.f30
  dsimp only
  rw [entry1]
  repeat' first
   | with_reducible refine Rl.go (by constructor <;> decide) ?_
   | ((with_reducible first | refine hK _ ?_ | refine hK.1 ?_ | refine hK.2 ?_); clear hK K)
   | ((with_reducible refine condS hK (fun hg => ?_) fun hg => ?_) <;> clear hK K <;> (try simp only [hgW] at hg) <;> try (exfalso; omega))
   | ((first | ((with_reducible first | refine Rk.go k30_VsCOne (by constructor) ?_ | refine Rd.go 2 k30_VsCOne a30_2_VsCOne o30_2_VsCOne mixed (by constructor) (by kernel_rfl) (by kernel_rfl) ?_ | refine Rd.go 3 k30_VsCOne a30_3_VsCOne o30_3_VsCOne mixed (by constructor) (by kernel_rfl) (by kernel_rfl) ?_); intro K hK) | with_reducible refine Rr.go [] (by constructor) ?_ | (with_reducible refine guardP_split (fun hg => ?_) fun hg => ?_) <;> (try simp only [hg]) <;> (try simp only [hgW] at hg) | refine Rc.go (f53_ok (ids.map u8) (by simp; omega)) (by constructor) ?_ | refine Rc.go f54_nil (by constructor) ?_) <;> simp -implicitDefEqProofs only [Int.cast_ofNat_Int, hn, go_sem, simprocAttr] <;> try simp (disch := omega) only [wrW])
   | with_reducible refine And.intro (by first | omega | (simp only [hgW]; omega)) ?_
   | (exfalso; omega)
  all_goals trace_state
theorem ok49 : callOk Try.prog 49 = true := rfl
def k48_VsCOne : List Nat := [0,1,2,6,7,8,9,10,11,17,31]
attribute [go_sem] k48_VsCOne
/-- Nothing is found in an empty row. -/
theorem f48_none (tg : List UInt8) : CallsP Try.prog 48 [.sl none true 12 [], idA tg, .fn 49 []] (.tup [.int .i64 0, .bool false]) := by
  unfold idA
  refine CallsP.intro Try.func48 rfl (by show 3 ≤ 49; decide) ?_
  rintro X hX
  have hn : X.n = 49 := hX
  unfold Try.f48
  dsimp only
  rw [entry3]
  repeat' first
   | with_reducible (first | refine Rl.go (by constructor <;> decide) ?_ | refine AWP.loopT 2 ?_ | refine AWP.unroll 2 ?_)
   | ((with_reducible first | refine hK _ ?_ | refine hK.1 ?_ | refine hK.2 ?_); clear hK K)
   | ((with_reducible refine condS hK (fun hg => ?_) fun hg => ?_) <;> clear hK K <;> (try simp only [hgW] at hg) <;> try (exfalso; omega))
   | ((first | ((with_reducible first | refine Rk.go k48_VsCOne (by constructor) ?_); intro K hK) | with_reducible refine Rr.go [] (by constructor) ?_ | (with_reducible refine guardP_split (fun hg => ?_) fun hg => ?_) <;> (try simp only [hg]) <;> (try simp only [hgW] at hg)) <;> simp -implicitDefEqProofs only [Int.cast_ofNat_Int, hn, go_sem, simprocAttr] <;> try simp (disch := omega) only [wrW])
   | with_reducible refine And.intro (by first | omega | (simp only [hgW]; omega)) ?_
   | (exfalso; omega)
  all_goals trace_state
theorem f48_one (tg : List UInt8) (cnt : Int) (fl : Bool) : CallsP Try.prog 48 [.sl none false 12 [.agg (crL (idA tg) cnt fl)], idA tg, .fn 49 []] (.tup [.int .i64 0, .bool true]) := by
  have c49 := f49_ok tg tg cnt fl
  rw [cmpB_self] at c49
  unfold crL idA at c49 ⊢
  refine CallsP.intro Try.func48 rfl (by show 3 ≤ 49; decide) ?_
  rintro X hX
  have hn : X.n = 49 := hX
  unfold Try.f48
  dsimp only
  rw [entry3]
  repeat' first
   | with_reducible (first | refine Rl.go (by constructor <;> decide) ?_ | refine AWP.loopT 2 ?_ | refine AWP.unroll 2 ?_)
   | ((with_reducible first | refine hK _ ?_ | refine hK.1 ?_ | refine hK.2 ?_); clear hK K)
   | ((with_reducible refine condS hK (fun hg => ?_) fun hg => ?_) <;> clear hK K <;> (try simp only [hgW] at hg) <;> try (exfalso; omega))
   | ((first | ((with_reducible first | refine Rk.go k48_VsCOne (by constructor) ?_); intro K hK) | with_reducible refine Rr.go [] (by constructor) ?_ | (with_reducible refine guardP_split (fun hg => ?_) fun hg => ?_) <;> (try simp only [hg]) <;> (try simp only [hgW] at hg) | refine Rc.go c49 (by constructor) ?_) <;> simp -implicitDefEqProofs only [ok49, Int.cast_ofNat_Int, hn, go_sem, simprocAttr] <;> try (simp (disch := omega) only [wrW]; try simp -implicitDefEqProofs only [ok49, Int.cast_ofNat_Int, hn, go_sem, simprocAttr]))
   | with_reducible refine And.intro (by first | omega | (simp only [hgW]; omega)) ?_
   | (exfalso; omega)
  all_goals trace_state
def k28_VsCOne : List Nat := [0,1,4,5,7]
attribute [go_sem] k28_VsCOne
theorem f28_none (tg : List UInt8) (room : Int) : CallsB Try.prog 28 [.ptr 1000000 0, idA tg] [[.int .i64 room, .sl none true 12 []]] (.tup [.int .i64 0, .bool false]) [[.int .i64 room, .sl none true 12 []]] := by
  have c := f48_none tg
  unfold idA at c ⊢
  refine CallsB.intro Try.func28 rfl (by show 2 ≤ 16; decide) ?_
  rintro X hX
  have hn : X.n = 16 := hX
  unfold Try.f28
  dsimp only
  rw [entryB21]
  repeat' first
   | with_reducible (first | refine Rl.go (by constructor <;> decide) ?_ | refine AWP.loopT 2 ?_ | refine AWP.unroll 2 ?_)
   | ((with_reducible first | refine hK _ ?_ | refine hK.1 ?_ | refine hK.2 ?_); clear hK K)
   | ((with_reducible refine condS hK (fun hg => ?_) fun hg => ?_) <;> clear hK K <;> (try simp only [hgW] at hg) <;> try (exfalso; omega))
   | ((first | ((with_reducible first | refine Rk.go k28_VsCOne (by constructor) ?_); intro K hK) | with_reducible refine Rr.go [] (by constructor) ?_ | (with_reducible refine guardP_split (fun hg => ?_) fun hg => ?_) <;> (try simp only [hg]) <;> (try simp only [hgW] at hg) | refine Rc.go c (by constructor) ?_) <;> simp -implicitDefEqProofs only [Int.cast_ofNat_Int, hn, go_sem, simprocAttr] <;> try (simp (disch := omega) only [wrW]; try simp -implicitDefEqProofs only [Int.cast_ofNat_Int, hn, go_sem, simprocAttr]))
   | with_reducible refine And.intro (by first | omega | (simp only [hgW]; omega)) ?_
   | (exfalso; omega)
  all_goals trace_state
theorem f28_one (tg : List UInt8) (room cnt : Int) (fl : Bool) : CallsB Try.prog 28 [.ptr 1000000 0, idA tg] [[.int .i64 room, .sl (some ((4, 0), 0)) false 12 [.agg (crL (idA tg) cnt fl)]]] (.tup [.int .i64 0, .bool true]) [[.int .i64 room, .sl (some ((3, 0), 0)) false 12 [.agg (crL (idA tg) cnt fl)]]] := by
  have c := f48_one tg cnt fl
  unfold crL idA at c ⊢
  refine CallsB.intro Try.func28 rfl (by show 2 ≤ 16; decide) ?_
  rintro X hX
  have hn : X.n = 16 := hX
  unfold Try.f28
  dsimp only
  rw [entryB21]
  repeat' first
   | with_reducible (first | refine Rl.go (by constructor <;> decide) ?_ | refine AWP.loopT 2 ?_ | refine AWP.unroll 2 ?_)
   | ((with_reducible first | refine hK _ ?_ | refine hK.1 ?_ | refine hK.2 ?_); clear hK K)
   | ((with_reducible refine condS hK (fun hg => ?_) fun hg => ?_) <;> clear hK K <;> (try simp only [hgW] at hg) <;> try (exfalso; omega))
   | ((first | ((with_reducible first | refine Rk.go k28_VsCOne (by constructor) ?_); intro K hK) | with_reducible refine Rr.go [] (by constructor) ?_ | (with_reducible refine guardP_split (fun hg => ?_) fun hg => ?_) <;> (try simp only [hg]) <;> (try simp only [hgW] at hg) | refine Rc.go c (by constructor) ?_) <;> simp -implicitDefEqProofs only [Int.cast_ofNat_Int, hn, go_sem, simprocAttr] <;> try (simp (disch := omega) only [wrW]; try simp -implicitDefEqProofs only [Int.cast_ofNat_Int, hn, go_sem, simprocAttr]))
   | with_reducible refine And.intro (by first | omega | (simp only [hgW]; omega)) ?_
   | (exfalso; omega)
  all_goals trace_state
def k9_VsCOne : List Nat := [0,2]
attribute [go_sem] k9_VsCOne
theorem f9_ok (room : Int) : CallsB Try.prog 9 [.int .i64 room] [] (.ptr 1000000 0) [[.int .i64 room, .sl none true 12 []]] := by
  refine CallsB.intro Try.func9 rfl (by show 1 ≤ 6; decide) ?_
  rintro X hX
  have hn : X.n = 6 := hX
  unfold Try.f9
  dsimp only
  rw [entryB_0, entry1]
  repeat' first
   | (with_reducible refine retSB_ret [5] ?_)
   | with_reducible (first | refine Rl.go (by constructor <;> decide) ?_ | refine AWP.loopT 2 ?_ | refine AWP.unroll 2 ?_)
   | ((with_reducible first | refine hK _ ?_ | refine hK.1 ?_ | refine hK.2 ?_); clear hK K)
   | ((with_reducible refine condS hK (fun hg => ?_) fun hg => ?_) <;> clear hK K <;> (try simp only [hgW] at hg) <;> try (exfalso; omega))
   | ((first | ((with_reducible first | refine Rk.go k9_VsCOne (by constructor) ?_); intro K hK) | with_reducible refine Rr.go [] (by constructor) ?_ | (with_reducible refine guardP_split (fun hg => ?_) fun hg => ?_) <;> (try simp only [hg]) <;> (try simp only [hgW] at hg)) <;> simp -implicitDefEqProofs only [Int.cast_ofNat_Int, hn, go_sem, simprocAttr] <;> try (simp (disch := omega) only [wrW]; try simp -implicitDefEqProofs only [Int.cast_ofNat_Int, hn, go_sem, simprocAttr]))
   | with_reducible refine And.intro (by first | omega | (simp only [hgW]; omega)) ?_
   | (exfalso; omega)
  simp -implicitDefEqProofs only [Int.cast_ofNat_Int, hn, go_sem, simprocAttr]
def k26_VsCOne : List Nat := [0,2,4]
attribute [go_sem] k26_VsCOne
theorem f26_one (room cnt : Int) (tg : List UInt8) (fl : Bool) : CallsB Try.prog 26 [.ptr 1000000 0] [[.int .i64 room, .sl (some ((4, 0), 0)) false 12 [.agg (crL (idA tg) cnt fl)]]] (.int .i64 1) [[.int .i64 room, .sl (some ((3, 0), 0)) false 12 [.agg (crL (idA tg) cnt fl)]]] := by
  unfold crL idA
  refine CallsB.intro Try.func26 rfl (by show 1 ≤ 10; decide) ?_
  rintro X hX
  have hn : X.n = 10 := hX
  unfold Try.f26
  dsimp only
  rw [entryB11]
  repeat' first
   | with_reducible (first | refine Rl.go (by constructor <;> decide) ?_ | refine AWP.loopT 2 ?_ | refine AWP.unroll 2 ?_)
   | ((with_reducible first | refine hK _ ?_ | refine hK.1 ?_ | refine hK.2 ?_); clear hK K)
   | ((with_reducible refine condS hK (fun hg => ?_) fun hg => ?_) <;> clear hK K <;> (try simp only [hgW] at hg) <;> try (exfalso; omega))
   | ((first | ((with_reducible first | refine Rk.go k26_VsCOne (by constructor) ?_); intro K hK) | with_reducible refine Rr.go [] (by constructor) ?_ | (with_reducible refine guardP_split (fun hg => ?_) fun hg => ?_) <;> (try simp only [hg]) <;> (try simp only [hgW] at hg)) <;> simp -implicitDefEqProofs only [Int.cast_ofNat_Int, hn, go_sem, simprocAttr] <;> try (simp (disch := omega) only [wrW]; try simp -implicitDefEqProofs only [Int.cast_ofNat_Int, hn, go_sem, simprocAttr]))
   | with_reducible refine And.intro (by first | omega | (simp only [hgW]; omega)) ?_
   | (exfalso; omega)
  all_goals trace_state
def k29_VsCOne : List Nat := [0,1,2,6,7,8,9,16,22,31,68]
def a29_11_VsCOne : List Nat := [0,0,0,6,15,0,0,96,255]
def o29_11_VsCOne : List Nat := [0,1,2,3,4,5,6,7,8]
def a29_15_VsCOne : List Nat := [0,0,0,6,15,0,0,96,255]
def o29_15_VsCOne : List Nat := [0,1,2,3,4,5,6,7,8]
attribute [go_sem] k29_VsCOne a29_11_VsCOne o29_11_VsCOne a29_15_VsCOne o29_15_VsCOne
theorem f29_first (x : AV) (hx : noE x = true) : CallsP Try.prog 29 [.sl none true 12 [], .int .i64 0, .sl none false 12 [x]] (.sl (some ((3,0),0)) false 12 [x]) := by
  refine CallsP.intro Try.func29 rfl (by show 3 ≤ 95; decide) ?_
  rintro X hX
  have hn : X.n = 95 := hX
  unfold Try.f29
  dsimp only
  rw [entry3]
  repeat' first
   | with_reducible (first | refine Rl.go (by constructor <;> decide) ?_ | refine AWP.loopT 2 ?_ | refine AWP.unroll 2 ?_)
   | ((with_reducible first | refine hK _ ?_ | refine hK.1 ?_ | refine hK.2 ?_); clear hK K)
   | ((with_reducible refine condS hK (fun hg => ?_) fun hg => ?_) <;> clear hK K <;> (try simp only [hgW] at hg) <;> try (exfalso; omega))
   | ((first | ((with_reducible first | refine Rk.go k29_VsCOne (by constructor) ?_ | refine Rd.go 11 k29_VsCOne a29_11_VsCOne o29_11_VsCOne mixed (by constructor) (by kernel_rfl) (by kernel_rfl) ?_ | refine Rd.go 15 k29_VsCOne a29_15_VsCOne o29_15_VsCOne mixed (by constructor) (by kernel_rfl) (by kernel_rfl) ?_); intro K hK) | with_reducible refine Rr.go [] (by constructor) ?_ | (with_reducible refine guardP_split (fun hg => ?_) fun hg => ?_) <;> (try simp only [hg]) <;> (try simp only [hgW] at hg)) <;> simp -implicitDefEqProofs only [Int.cast_ofNat_Int, hn, go_sem, simprocAttr] <;> try (simp (disch := omega) only [wrW]; try simp -implicitDefEqProofs only [Int.cast_ofNat_Int, hn, go_sem, simprocAttr]))
   | with_reducible refine And.intro (by first | omega | (simp only [hgW]; omega)) ?_
   | (exfalso; omega)
  all_goals trace_state
def k12_VsCOne : List Nat := [0,1,4,5,6,7,15]
attribute [go_sem] k12_VsCOne
theorem f12_one (tg : List UInt8) (hl : tg.length ≤ 1000) (room cnt : Int) (fl : Bool) : CallsB Try.prog 12 [.ptr 1000000 0, idA tg] [[.int .i64 room, .sl (some ((4, 0), 0)) false 12 [.agg (crL (idA tg) cnt fl)]]]
    (.tup [.agg (crL (.sl (some ((3, 1), 0)) false 1 (tg.map u8)) cnt fl), .bool true]) [[.int .i64 room, .sl (some ((3, 0), 0)) false 12 [.agg (crL (idA tg) cnt fl)]]] := by
  have c := f28_one tg room cnt fl
  have c30 := f30_ok tg hl cnt fl
  unfold crL idA at c c30 ⊢
  refine CallsB.intro Try.func12 rfl (by show 2 ≤ 25; decide) ?_
  rintro X hX
  have hn : X.n = 25 := hX
  unfold Try.f12
  dsimp only
  rw [entryB21]
  repeat' first
   | with_reducible (first | refine Rl.go (by constructor <;> decide) ?_ | refine AWP.loopT 2 ?_ | refine AWP.unroll 2 ?_)
   | ((with_reducible first | refine hK _ ?_ | refine hK.1 ?_ | refine hK.2 ?_); clear hK K)
   | ((with_reducible refine condS hK (fun hg => ?_) fun hg => ?_) <;> clear hK K <;> (try simp only [hgW] at hg) <;> try (exfalso; omega))
   | ((with_reducible refine callE_B3 c ?_); simp -implicitDefEqProofs only [eqOk_true, Int.cast_ofNat_Int, hn, go_sem, simprocAttr]; (skip; try (simp (disch := omega) only [wrW]; try simp -implicitDefEqProofs only [Int.cast_ofNat_Int, hn, go_sem, simprocAttr])); fail_if_success (with_reducible refine eqOk_mk ?_))
   | ((first | ((with_reducible first | refine Rk.go k12_VsCOne (by constructor) ?_); intro K hK) | with_reducible refine Rr.go [] (by constructor) ?_ | (with_reducible refine guardP_split (fun hg => ?_) fun hg => ?_) <;> (try simp only [hg]) <;> (try simp only [hgW] at hg) | refine Rc.go c30 (by constructor) ?_) <;> simp -implicitDefEqProofs only [Int.cast_ofNat_Int, hn, go_sem, simprocAttr] <;> try (simp (disch := omega) only [wrW]; try simp -implicitDefEqProofs only [Int.cast_ofNat_Int, hn, go_sem, simprocAttr]))
   | with_reducible refine And.intro (by first | omega | (simp only [hgW]; omega)) ?_
   | (exfalso; omega)
  all_goals trace_state
def k10_VsCOne : List Nat := [0,1,3,4,5,6,14,17,28,30]
def a10_8_VsCOne : List Nat := [0,1,3,7,15,0,32,96,224,511,1023]
def o10_8_VsCOne : List Nat := [0,1,2,3,4,5,6,7,8,9,10]
def a10_10_VsCOne : List Nat := [0,0,2,6,14,0,0,64,192,510,1023,2047,4095]
def o10_10_VsCOne : List Nat := [6,7,8,1,2,3,4,5,9,0,10,11,12]
attribute [go_sem] k10_VsCOne a10_8_VsCOne o10_8_VsCOne a10_10_VsCOne o10_10_VsCOne
theorem f10_first (tg : List UInt8) (h1 : 1 ≤ tg.length) (hl : tg.length ≤ 100) (room cnt : Int) (fl : Bool) (hr : 1 ≤ room) : CallsB Try.prog 10 [.ptr 1000000 0, .agg (crL (idA tg) cnt fl)] [[.int .i64 room, .sl none true 12 []]]
    (.int .i64 0) [[.int .i64 room, .sl (some ((3, 0), 0)) false 12 [.agg (crL (idA tg) cnt fl)]]] := by
  have c := f28_none tg room
  have c30 := f30_ok tg (by omega) cnt fl
  have c29 := f29_first (.agg (crL (idA tg) cnt fl)) rfl
  unfold crL idA at c c30 c29 ⊢
  refine CallsB.intro Try.func10 rfl (by show 2 ≤ 53; decide) ?_
  rintro X hX
  have hn : X.n = 53 := hX
  unfold Try.f10
  dsimp only
  rw [entryB21]
  repeat' first
   | with_reducible (first | refine Rl.go (by constructor <;> decide) ?_ | refine AWP.loopT 2 ?_ | refine AWP.unroll 2 ?_)
   | ((with_reducible first | refine hK _ ?_ | refine hK.1 ?_ | refine hK.2 ?_); clear hK K)
   | ((with_reducible refine condS hK (fun hg => ?_) fun hg => ?_) <;> clear hK K <;> (try simp only [hgW] at hg) <;> try (exfalso; omega))
   | ((with_reducible refine callE_B3 c ?_); simp -implicitDefEqProofs only [eqOk_true, Int.cast_ofNat_Int, hn, go_sem, simprocAttr]; (skip; try (simp (disch := omega) only [wrW]; try simp -implicitDefEqProofs only [Int.cast_ofNat_Int, hn, go_sem, simprocAttr])); fail_if_success (with_reducible refine eqOk_mk ?_))
   | ((first | ((with_reducible first | refine Rk.go k10_VsCOne (by constructor) ?_ | refine Rd.go 8 k10_VsCOne a10_8_VsCOne o10_8_VsCOne mixed (by constructor) (by kernel_rfl) (by kernel_rfl) ?_ | refine Rd.go 10 k10_VsCOne a10_10_VsCOne o10_10_VsCOne mixed (by constructor) (by kernel_rfl) (by kernel_rfl) ?_); intro K hK) | with_reducible refine Rr.go [] (by constructor) ?_ | (with_reducible refine guardP_split (fun hg => ?_) fun hg => ?_) <;> (try simp only [hg]) <;> (try simp only [hgW] at hg) | refine Rc.go c30 (by constructor) ?_ | refine Rc.go c29 (by constructor) ?_) <;> simp -implicitDefEqProofs only [Int.cast_ofNat_Int, hn, go_sem, simprocAttr] <;> try (simp (disch := omega) only [wrW]; try simp -implicitDefEqProofs only [Int.cast_ofNat_Int, hn, go_sem, simprocAttr]))
   | with_reducible refine And.intro (by first | omega | (simp only [hgW]; omega)) ?_
   | (exfalso; omega)
  all_goals trace_state
def k11_VsCOne : List Nat := [0,1,2,3,8,9,10,11,18,21]
def p11_7_VsCOne : List Nat := []
def a11_7_VsCOne : List Nat := [0,0,0,4,12,28,0,124,0,256,768,1792,3840,7936,16128,4093,36861,106493,262143,524287,1048575]
def o11_7_VsCOne : List (List Nat) := [[2,3,4,5,8,9,10,11,0,6,7,12,15,16,17,1,13,14,18,19,20],[8,9,10,11,2,3,4,5,0,6,7,12,15,16,17,1,13,14,18,19,20]]
attribute [go_sem] k11_VsCOne p11_7_VsCOne a11_7_VsCOne o11_7_VsCOne
theorem f11_one (tg : List UInt8) (room cnt c2 : Int) (fl f2 : Bool) : CallsB Try.prog 11 [.ptr 1000000 0, idA tg, .int .u32 c2, .bool f2] [[.int .i64 room, .sl (some ((4, 0), 0)) false 12 [.agg (crL (idA tg) cnt fl)]]]
    (.int .i64 0) [[.int .i64 room, .sl (some ((3, 0), 0)) false 12 [.agg (crL (idA tg) (max cnt c2) (fl || f2))]]] := by
  have c := f28_one tg room cnt fl
  have hm : max cnt c2 = (if cnt < c2 then c2 else cnt) := by split <;> omega
  unfold crL idA at c ⊢
  rw [hm]
  cases fl
  · refine CallsB.intro Try.func11 rfl (by show 4 ≤ 49; decide) ?_
    rintro X hX
    have hn : X.n = 49 := hX
    unfold Try.f11
    dsimp only
    rw [entryB41]
    repeat' first
     | with_reducible (first | refine Rl.go (by constructor <;> decide) ?_ | refine AWP.loopT 2 ?_ | refine AWP.unroll 2 ?_)
     | ((with_reducible first | refine hK _ ?_ | refine hK.1 ?_ | refine hK.2 ?_); clear hK K)
     | ((with_reducible refine condS hK (fun hg => ?_) fun hg => ?_) <;> clear hK K <;> (try simp only [hgW] at hg) <;> try (exfalso; omega))
     | ((with_reducible refine callE_B3 c ?_); simp -implicitDefEqProofs only [eqOk_true, Int.cast_ofNat_Int, hn, go_sem, simprocAttr]; (skip; try (simp (disch := omega) only [wrW]; try simp -implicitDefEqProofs only [Int.cast_ofNat_Int, hn, go_sem, simprocAttr])); fail_if_success (with_reducible refine eqOk_mk ?_))
     | ((first | ((with_reducible first | refine Rk.go k11_VsCOne (by constructor) ?_ | refine Rm.go 7 k11_VsCOne p11_7_VsCOne a11_7_VsCOne o11_7_VsCOne mixed (by constructor) (by kernel_rfl) (by kernel_rfl) (by with_unfolding_all rfl) ?_); intro K hK) | with_reducible refine Rr.go [] (by constructor) ?_ | (with_reducible refine guardP_split (fun hg => ?_) fun hg => ?_) <;> (try simp only [hg]) <;> (try simp only [hgW] at hg)) <;> simp -implicitDefEqProofs only [Int.cast_ofNat_Int, hn, go_sem, simprocAttr] <;> try (simp (disch := omega) only [wrW]; try simp -implicitDefEqProofs only [Int.cast_ofNat_Int, hn, go_sem, simprocAttr]))
     | with_reducible refine And.intro (by first | omega | (simp only [hgW]; omega)) ?_
     | (exfalso; omega)
    all_goals trace_state
  · refine CallsB.intro Try.func11 rfl (by show 4 ≤ 49; decide) ?_
    rintro X hX
    have hn : X.n = 49 := hX
    unfold Try.f11
    dsimp only
    rw [entryB41]
    repeat' first
     | with_reducible (first | refine Rl.go (by constructor <;> decide) ?_ | refine AWP.loopT 2 ?_ | refine AWP.unroll 2 ?_)
     | ((with_reducible first | refine hK _ ?_ | refine hK.1 ?_ | refine hK.2 ?_); clear hK K)
     | ((with_reducible refine condS hK (fun hg => ?_) fun hg => ?_) <;> clear hK K <;> (try simp only [hgW] at hg) <;> try (exfalso; omega))
     | ((with_reducible refine callE_B3 c ?_); simp -implicitDefEqProofs only [eqOk_true, Int.cast_ofNat_Int, hn, go_sem, simprocAttr]; (skip; try (simp (disch := omega) only [wrW]; try simp -implicitDefEqProofs only [Int.cast_ofNat_Int, hn, go_sem, simprocAttr])); fail_if_success (with_reducible refine eqOk_mk ?_))
     | ((first | ((with_reducible first | refine Rk.go k11_VsCOne (by constructor) ?_ | refine Rm.go 7 k11_VsCOne p11_7_VsCOne a11_7_VsCOne o11_7_VsCOne mixed (by constructor) (by kernel_rfl) (by kernel_rfl) (by with_unfolding_all rfl) ?_); intro K hK) | with_reducible refine Rr.go [] (by constructor) ?_ | (with_reducible refine guardP_split (fun hg => ?_) fun hg => ?_) <;> (try simp only [hg]) <;> (try simp only [hgW] at hg)) <;> simp -implicitDefEqProofs only [Int.cast_ofNat_Int, hn, go_sem, simprocAttr] <;> try (simp (disch := omega) only [wrW]; try simp -implicitDefEqProofs only [Int.cast_ofNat_Int, hn, go_sem, simprocAttr]))
     | with_reducible refine And.intro (by first | omega | (simp only [hgW]; omega)) ?_
     | (exfalso; omega)
    all_goals trace_state
end Go.Proofs.Ytafapnmnkmidkaa
