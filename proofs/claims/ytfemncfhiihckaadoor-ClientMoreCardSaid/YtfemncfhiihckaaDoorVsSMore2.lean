/- How a reader of JSON goes over an object of any names: plain, no program in sight. -/
import Derived.Test.YtfemncfhiihckaaDoorVsPTxt
import Derived.Test.YtfemncfhiihckaaDoorVsRDec2
import Derived.Test.YtfemncfhiihckaaDoorVsREnc
import Derived.Test.YtfemncfhiihckaaDoorVsPParse
import Derived.Test.YtfemncfhiihckaaDoorVsRSay
import Derived.Test.YtfemncfhiihckaaDoorVsRCli
open Go Go.VS
namespace Go.Proofs.YtfemncfhiihckaaDoor
set_option linter.unusedVariables false
set_option linter.unusedSimpArgs false
set_option maxRecDepth 20000
set_option maxHeartbeats 4000000
/-- A member as it is written: blanks, its name, blanks, blanks behind the colon, its value, blanks. -/
structure Mem where
  w0 : List UInt8
  nm : List UInt8
  w1 : List UInt8
  w2 : List UInt8
  T : List UInt8
  N : Nat → List JN
  w3 : List UInt8
def mtext (m : Mem) (rest : List UInt8) : List UInt8 := m.w0 ++ 34 :: (m.nm ++ 34 :: (m.w1 ++ 58 :: (m.w2 ++ (m.T ++ (m.w3 ++ rest)))))
def msT : Mem → List Mem → List UInt8
  | m, [] => mtext m [125]
  | m, m2 :: ms => mtext m (44 :: msT m2 ms)
def Mem.it (m : Mem) : It := (m.T, m.N)
structure MemOk (val : RJ → Nat × RJ) (deep : Nat) (m : Mem) : Prop where
  w0 : AllB m.w0
  w1 : AllB m.w1
  w2 : AllB m.w2
  w3 : AllB m.w3
  nm : Clean m.nm
  rd : Reads val deep m.T m.N
theorem mtext_app (m : Mem) (r X : List UInt8) : mtext m r ++ X = mtext m (r ++ X) := by simp [mtext]
theorem memb_reads {val : RJ → Nat × RJ} {deep : Nat} : ∀ (ms : List Mem) (m : Mem) (n : Nat) (s : RJ) (ns : List (List UInt8)) (acc : List Nat) (X : List UInt8), (∀ x ∈ m :: ms, MemOk val deep x) → ms.length < n → (ns ++ (m :: ms).map Mem.nm).Nodup →
    s.deep = deep → s.err = 0 → s.nodes.length ≤ 256 → At s (msT m ms ++ X) →
    (s.nodes.length + (nodesI s.nodes.length ((m :: ms).map Mem.it)).1.length ≤ 256 → (objS val n s ns acc).1 = (ns ++ (m :: ms).map Mem.nm, acc ++ (nodesI s.nodes.length ((m :: ms).map Mem.it)).2) ∧ Aft s (objS val n s ns acc).2 (nodesI s.nodes.length ((m :: ms).map Mem.it)).1 X) ∧
    (256 < s.nodes.length + (nodesI s.nodes.length ((m :: ms).map Mem.it)).1.length → (objS val n s ns acc).2.err = 14)
  | ms, m, 0, s, ns, acc, X, _, hn, _, _, _, _, _ => by omega
  | ms, m, n + 1, s, ns, acc, X, hR, hn, hnd, hd, he, hl, h => by
    have hm := hR m (by simp)
    obtain ⟨xs, hx1, hx2⟩ := hm.nm
    obtain ⟨rest, hrest, hstop⟩ : ∃ rest, msT m ms ++ X = mtext m rest ∧ stopR (m.w3 ++ rest) ∧ (rest = 125 :: X ∨ ∃ m2 ms2, ms = m2 :: ms2 ∧ rest = 44 :: (msT m2 ms2 ++ X)) := by
      cases ms with
      | nil => exact ⟨125 :: X, by rw [msT, mtext_app]; rfl, stop_app hm.w3 (.inr (.inr rfl)), .inl rfl⟩
      | cons m2 ms2 => exact ⟨44 :: (msT m2 ms2 ++ X), by rw [msT, mtext_app]; rfl, stop_app hm.w3 (.inl rfl), .inr ⟨m2, ms2, rfl, rfl⟩⟩
    rw [hrest] at h
    have h0 : At s (m.w0 ++ 34 :: (m.nm ++ 34 :: (m.w1 ++ 58 :: (m.w2 ++ (m.T ++ (m.w3 ++ rest)))))) := h
    obtain ⟨a1, a2⟩ := here_at he h0 hm.w0 (by decide)
    have a3 := a2.at_
    rw [hx1] at a3
    obtain ⟨b1, b2⟩ := text_reads a2.err a3 hx2
    rw [← hx1] at b1
    obtain ⟨c1, c2⟩ := sign_yes b2.err b2.at_ hm.w1 (by decide)
    have hA := (a2.trans b2).trans c2
    simp only [List.append_nil] at hA
    have hln : (signS (textS (hereS s).2).2 58).2.nodes = s.nodes := by rw [hA.nodes, List.append_nil]
    obtain ⟨r1, r2⟩ := hm.rd _ m.w2 _ (hA.deep.trans hd) hA.err (by rw [hln]; exact hl) hA.at_ hm.w2 hstop.1
    rw [hln] at r1 r2
    have hnew : m.nm ∉ ns := by
      rw [List.nodup_append] at hnd
      exact fun hin => hnd.2.2 _ hin _ (by simp) rfl
    have hst : ∀ acc : List Nat, objS val (n + 1) s ns acc = (if (signS (val (signS (textS (hereS s).2).2 58).2).2 125).1 = true then ((ns ++ [m.nm], acc ++ [(val (signS (textS (hereS s).2).2 58).2).1]), (signS (val (signS (textS (hereS s).2).2 58).2).2 125).2)
        else objS val n (if (signS (signS (val (signS (textS (hereS s).2).2 58).2).2 125).2 44).1 = true then (signS (signS (val (signS (textS (hereS s).2).2 58).2).2 125).2 44).2 else (signS (signS (val (signS (textS (hereS s).2).2 58).2).2 125).2 44).2.fail 11) (ns ++ [m.nm]) (acc ++ [(val (signS (textS (hereS s).2).2 58).2).1])) := by
      intro acc
      conv => lhs; unfold objS
      rw [if_neg (by simpa using he), if_neg (by simpa using a1)]
      simp only [b1, if_neg hnew, c1, if_true]
    generalize hV : val (signS (textS (hereS s).2).2 58).2 = V at *
    have hbad : 256 < s.nodes.length + (m.N s.nodes.length).length → (objS val (n + 1) s ns acc).2.err = 14 := by
      intro hm
      have e14 := r2 hm
      have hne : V.2.err ≠ 0 := by rw [e14]; decide
      rw [hst, (sign_err hne 125).1, (sign_err hne 125).2, (sign_err hne 44).1, (sign_err hne 44).2]
      simp only [Bool.false_eq_true, if_false]
      rw [fail_err hne, obj_err hne]
      exact e14
    rcases hstop.2 with rfl | ⟨m2, ms2, rfl, rfl⟩
    · cases ms with
      | cons m2 ms2 =>
        exfalso
        have := hrest
        rw [msT, mtext_app] at this
        simp only [mtext, List.append_cancel_left_eq, List.cons.injEq, true_and] at this
        simp at this
      | nil =>
        simp only [List.map_cons, List.map_nil, nodesI, List.append_nil, Mem.it]
        refine ⟨fun hm1 => ?_, hbad⟩
        obtain ⟨q1, q2⟩ := r1 hm1
        obtain ⟨y1, y2⟩ := sign_yes q2.err q2.at_ hm.w3 (by decide)
        rw [hst, if_pos (show (signS V.2 125).1 = true from y1), q1]
        refine ⟨rfl, ?_⟩
        have := (hA.trans q2).trans y2
        rwa [List.append_nil, List.nil_append] at this
    · simp only [List.map_cons, nodesI, List.length_append, Mem.it] at *
      by_cases hm0 : 256 < s.nodes.length + (m.N s.nodes.length).length
      · exact ⟨fun hm => by omega, fun _ => hbad hm0⟩
      obtain ⟨q1, q2⟩ := r1 (by omega)
      obtain ⟨y1, y2⟩ := sign_no (c := 125) q2.err q2.at_ hm.w3 (by decide) (by decide)
      obtain ⟨z1, z2⟩ := sign_yes (ws := []) y2.err y2.at_ (fun _ hx => by cases hx) (by decide)
      have hB := ((hA.trans q2).trans y2).trans z2
      simp only [List.append_nil, List.nil_append] at hB
      have hln2 : (signS (signS V.2 125).2 44).2.nodes.length = s.nodes.length + (m.N s.nodes.length).length := by rw [hB.nodes, List.length_append]
      have ih := memb_reads ms2 m2 n (signS (signS V.2 125).2 44).2 (ns ++ [m.nm]) (acc ++ [s.nodes.length]) X (fun x hx => hR x (by simp only [List.mem_cons] at hx ⊢; exact .inr hx)) (by simp only [List.length_cons] at hn; omega)
        (by rw [List.append_assoc]; exact hnd) (hB.deep.trans hd) hB.err (by omega) hB.at_
      rw [hln2] at ih
      rw [hst, y1, if_neg (by simp), if_pos z1, q1]
      simp only [List.map_cons, nodesI, List.length_append, Mem.it] at ih
      refine ⟨fun hm => ?_, fun hm => ih.2 (by omega)⟩
      obtain ⟨w1, w2⟩ := ih.1 (by omega)
      refine ⟨by rw [w1, List.append_assoc, List.append_assoc]; rfl, ?_⟩
      exact hB.trans w2
def objN (ms : List Mem) (base : Nat) : List JN := ⟨1, [], ms.map Mem.nm, (nodesI (base + 1) (ms.map Mem.it)).2⟩ :: (nodesI (base + 1) (ms.map Mem.it)).1
/-- An object of some members. -/
theorem object_reads {val : RJ → Nat × RJ} {deep : Nat} (hd8 : deep + 1 ≤ 8) (m : Mem) (ms : List Mem) (h200 : ms.length < 200) (hnd : ((m :: ms).map Mem.nm).Nodup) (hR : ∀ x ∈ m :: ms, MemOk val (deep + 1) x) :
    Reads (valueS val) deep (123 :: msT m ms) (objN (m :: ms)) := by
  refine value_reads (by decide) (fun base => by simp [objN]) fun s X base hd he hl hb h hX => ?_
  have ho := open_ok (s := s) (by omega)
  have hm : At (openS s) (msT m ms ++ X) := by rw [ho]; exact At.move (p := [123]) h
  have hod : (openS s).deep = deep + 1 := by rw [ho]; show s.deep + 1 = deep + 1; rw [hd]
  have hoe : (openS s).err = 0 := by rw [ho]; exact he
  have hon : (openS s).nodes = s.nodes := by rw [ho]
  have hob : (openS s).b = s.b := by rw [ho]
  have hshut : ∀ (t : RJ) (M : List JN), Aft (openS s) t M X → Aft s (shutS t) M X := fun t M k => ⟨k.b.trans hob, by show t.deep - 1 = s.deep; rw [k.deep, hod, hd]; rfl, k.err, by show t.nodes = _; rw [k.nodes, hon], k.at_⟩
  obtain ⟨r, hr⟩ : ∃ r, msT m ms ++ X = m.w0 ++ 34 :: r := by
    cases ms with
    | nil => exact ⟨_, by rw [msT, mtext_app, mtext]⟩
    | cons m2 ms2 => exact ⟨_, by rw [msT, mtext_app, mtext]⟩
  obtain ⟨y1, y2⟩ := sign_no (c := 125) hoe (by rw [hr] at hm; exact hm) (hR m (by simp)).w0 (by decide) (by decide)
  have hln : (signS (openS s) 125).2.nodes = s.nodes := by rw [y2.nodes, List.append_nil, hon]
  have hmr := hR m (by simp)
  -- the first name's blanks are gone by now
  have hm0 : ∀ x ∈ { m with w0 := [] } :: ms, MemOk val (deep + 1) x := fun x hx => by
    rcases List.mem_cons.1 hx with rfl | hx
    · exact ⟨(fun _ h => by cases h), hmr.w1, hmr.w2, hmr.w3, hmr.nm, hmr.rd⟩
    · exact hR x (by simp [hx])
  have h2 : At (signS (openS s) 125).2 (msT { m with w0 := [] } ms ++ X) := by
    have e : msT { m with w0 := [] } ms ++ X = 34 :: r := by
      have : m.w0 ++ (msT { m with w0 := [] } ms ++ X) = m.w0 ++ 34 :: r := by
        rw [← hr]
        cases ms with
        | nil => simp [msT, mtext]
        | cons m2 ms2 => simp [msT, mtext]
      exact List.append_cancel_left this
    rw [e]
    exact y2.at_
  obtain ⟨r1, r2⟩ := memb_reads ms { m with w0 := [] } 300 (signS (openS s) 125).2 [] [] X hm0 (by omega) hnd (y2.deep.trans hod) y2.err (by rw [hln]; omega) h2
  rw [hln, hl] at r1 r2
  have hbd : bodyS val 123 s = (⟨1, [], (objS val 300 (signS (openS s) 125).2 [] []).1.1, (objS val 300 (signS (openS s) 125).2 [] []).1.2⟩, shutS (objS val 300 (signS (openS s) 125).2 [] []).2) := by
    unfold bodyS objectS
    rw [if_pos rfl, if_neg (by rw [y1]; decide)]
  have hdist : ∀ base : Nat, (objN (m :: ms) base).length = 1 + (nodesI (base + 1) ((m :: ms).map Mem.it)).1.length := fun base => by simp only [objN, List.length_cons]; omega
  rw [hbd, hdist]
  refine ⟨fun hm => ?_, fun hm => r2 (by show 256 < base + 1 + (nodesI (base + 1) ((m :: ms).map Mem.it)).1.length; omega)⟩
  obtain ⟨w1, w2⟩ := r1 (by show base + 1 + (nodesI (base + 1) ((m :: ms).map Mem.it)).1.length ≤ 256; omega)
  refine ⟨_, ?_, hshut _ _ (y2.trans0 w2)⟩
  rw [w1]; rfl
end Go.Proofs.YtfemncfhiihckaaDoor
open Go Go.VS
namespace Go.Proofs.YtfemncfhiihckaaDoor
set_option linter.unusedVariables false
set_option linter.unusedSimpArgs false
set_option maxRecDepth 20000
set_option maxHeartbeats 4000000
def sgAt (v : Nat) : UInt8 := sgB.getD v default
theorem sg_ok : ∀ v : Fin 64, valB (sgAt v).toNat = some v.val ∧ (sgAt v).toNat < 128 := by decide
theorem vB_add (b : List UInt8) (i n : Nat) : ∀ m, vB b i (n + m) = vB b i n * 2 ^ m + vB b (i + n) m
  | 0 => by simp [vB]
  | m + 1 => by
    have h := vB_add b i n m
    rw [show n + (m + 1) = (n + m) + 1 by omega, vB, h, vB, Nat.pow_succ, Nat.add_assoc i n m]
    generalize vB b i n = x
    generalize vB b (i + n) m = y
    generalize bitB b (i + (n + m)) = z
    generalize 2 ^ m = p
    have e : x * (p * 2) = 2 * (x * p) := by rw [Nat.mul_comm p 2, Nat.mul_left_comm]
    rw [e]
    omega
theorem vB_byte (b : List UInt8) (i : Nat) (h : i < b.length) : vB b (8 * i) 8 = (b.getD i default).toNat := by
  have hb : ∀ j, j < 8 → bitB b (8 * i + j) = (b.getD i default).toNat / 2 ^ (7 - j) % 2 := by
    intro j hj
    unfold bitB
    rw [if_pos (by omega), show (8 * i + j) / 8 = i by omega, show (8 * i + j) % 8 = j by omega]
  have hl := (b.getD i default).toNat_lt
  simp only [vB]
  rw [hb 0 (by omega), hb 1 (by omega), hb 2 (by omega), hb 3 (by omega), hb 4 (by omega), hb 5 (by omega), hb 6 (by omega), hb 7 (by omega)]
  generalize (b.getD i default).toNat = c at *
  simp only [Nat.reducePow, Nat.reduceSub, Nat.div_one]
  omega
theorem vB_end (b : List UInt8) (i : Nat) (h : 8 * b.length ≤ i) : ∀ m, vB b i m = 0
  | 0 => rfl
  | m + 1 => by
    rw [vB, vB_end b i h m]
    unfold bitB
    rw [if_neg (by omega)]
theorem e64_map (b : List UInt8) : ∀ q, e64 b q = (List.range q).map fun k => sgAt (vB b (6 * k) 6)
  | 0 => rfl
  | q + 1 => by rw [e64, e64_map b q, List.range_succ, List.map_append]; rfl
theorem dec_asc (c : UInt8) (t : List UInt8) (h : c.toNat < 128) : Go.Lib.decodeL (c :: t) = (c.toNat, 1) := by
  rw [Go.Lib.decodeL_N]
  unfold Go.Lib.decodeN
  rw [if_pos (by simpa using h)]
  simp
/-- One sign more: what is at hand. -/
theorem acc_mod (a v n x : Nat) (hn : n ≤ 6) (hv : v < 64) (hx : a % 2 ^ n = x) : accB a v % 2 ^ (n + 6) = x * 64 + v := by
  unfold accB
  have e32 : (4294967296 : Nat) = 2 ^ (n + 6) * 2 ^ (26 - n) := by rw [← Nat.pow_add, show n + 6 + (26 - n) = 32 by omega]
  have e1 : (a * 64 % 4294967296 + v) % 2 ^ (n + 6) = (a * 64 + v) % 2 ^ (n + 6) := by
    rw [Nat.add_mod, e32, Nat.mod_mul_right_mod, ← Nat.add_mod]
  rw [e1, Nat.pow_add, show (2 : Nat) ^ 6 = 64 from rfl]
  have hp : 0 < 2 ^ n := Nat.two_pow_pos n
  have hd := Nat.div_add_mod a (2 ^ n)
  rw [hx] at hd
  have hxl : x < 2 ^ n := by rw [← hx]; exact Nat.mod_lt _ hp
  generalize 2 ^ n = p at *
  generalize a / p = q at *
  subst hd
  have : (p * q + x) * 64 + v = p * 64 * q + (x * 64 + v) := by
    rw [Nat.add_mul, Nat.mul_right_comm p q 64]; omega
  rw [this, Nat.mul_add_mod, Nat.mod_eq_of_lt (by omega)]
theorem dc_run (b : List UInt8) (Q : Nat) (hQ : Q = (8 * b.length + 5) / 6) : ∀ (m q a : Nat) (out : List UInt8), q + m = Q → out = b.take (6 * q / 8) → a % 2 ^ (6 * q % 8) = vB b (8 * (6 * q / 8)) (6 * q % 8) →
    ∃ a', dcG a (6 * q % 8) out (((List.range Q).map fun k => sgAt (vB b (6 * k) 6)).drop q) = some (a', 6 * Q % 8, b) ∧ a' % 2 ^ (6 * Q % 8) = 0
  | 0, q, a, out, hq, ho, ha => by
    obtain rfl : q = Q := by omega
    rw [List.drop_of_length_le (by simp), dcG]
    refine ⟨a, ?_, ?_⟩
    · rw [ho, show 6 * q / 8 = b.length by omega, List.take_length]
    · rw [ha, vB_end b _ (by omega)]
  | m + 1, q, a, out, hq, ho, ha => by
    have hqQ : q < Q := by omega
    have hd : ((List.range Q).map fun k => sgAt (vB b (6 * k) 6)).drop q = sgAt (vB b (6 * q) 6) :: ((List.range Q).map fun k => sgAt (vB b (6 * k) 6)).drop (q + 1) := by
      rw [List.drop_eq_getElem_cons (by simp; omega)]
      simp
    have hv64 : vB b (6 * q) 6 < 64 := vB_lt b (6 * q) 6
    have hsg := sg_ok ⟨vB b (6 * q) 6, hv64⟩
    simp only at hsg
    obtain ⟨V, hV⟩ : ∃ V, vB b (6 * q) 6 = V := ⟨_, rfl⟩
    rw [hd]
    rw [hV] at hv64 hsg ⊢
    rw [dcG, dec_asc _ _ hsg.2]
    simp only [hsg.1, List.drop_succ_cons, List.drop_zero]
    obtain ⟨n, hn⟩ : ∃ n, 6 * q % 8 = n := ⟨_, rfl⟩
    obtain ⟨i, hi⟩ : ∃ i, 6 * q / 8 = i := ⟨_, rfl⟩
    have hin : 8 * i + n = 6 * q := by omega
    have hn6 : n ≤ 6 := by omega
    rw [hn, hi] at ha
    rw [hi] at ho
    rw [hn]
    have hacc := acc_mod a V n _ hn6 hv64 ha
    have hadd := vB_add b (8 * i) n 6
    rw [show 8 * i + n = 6 * q from hin, hV, show (2 : Nat) ^ 6 = 64 from rfl] at hadd
    rw [← hadd] at hacc
    obtain ⟨A, hA⟩ : ∃ A, accB a V = A := ⟨_, rfl⟩
    rw [hA] at hacc ⊢
    by_cases h8 : 8 ≤ n + 6
    · rw [if_pos h8]
      have hq1 : 6 * (q + 1) % 8 = n - 2 := by omega
      have hq2 : 6 * (q + 1) / 8 = i + 1 := by omega
      have hil : i < b.length := by omega
      have hsplit := vB_add b (8 * i) 8 (n - 2)
      rw [show 8 + (n - 2) = n + 6 by omega, vB_byte b i hil, show 8 * i + 8 = 8 * (i + 1) by omega] at hsplit
      have hlow := vB_lt b (8 * (i + 1)) (n - 2)
      have hcl := (b.getD i default).toNat_lt
      obtain ⟨c, hc⟩ : ∃ c, b.getD i default = c := ⟨_, rfl⟩
      rw [hc] at hsplit hcl
      obtain ⟨w, hw⟩ : ∃ w, vB b (8 * (i + 1)) (n - 2) = w := ⟨_, rfl⟩
      rw [hw] at hsplit hlow
      rw [hsplit] at hacc
      have hp : 0 < 2 ^ (n - 2) := Nat.two_pow_pos _
      have e2 : 2 ^ (n + 6) = 2 ^ (n - 2) * 256 := by rw [show n + 6 = (n - 2) + 8 by omega, Nat.pow_add]
      have hlowA : A % 2 ^ (n - 2) = w := by
        have : A % 2 ^ (n + 6) % 2 ^ (n - 2) = A % 2 ^ (n - 2) := by rw [e2, Nat.mod_mul_right_mod]
        rw [← this, hacc, Nat.add_comm, Nat.add_mul_mod_self_right, Nat.mod_eq_of_lt hlow]
      have hbyte : UInt8.ofNat (A / 2 ^ (n - 2)) = c := by
        have h1 : A / 2 ^ (n - 2) % 256 = c.toNat := by
          have : A % (2 ^ (n - 2) * 256) / 2 ^ (n - 2) = A / 2 ^ (n - 2) % 256 := Nat.mod_mul_right_div_self A (2 ^ (n - 2)) 256
          rw [← this, ← e2, hacc, Nat.add_comm, Nat.add_mul_div_right _ _ hp, Nat.div_eq_of_lt hlow, Nat.zero_add]
        refine UInt8.toNat_inj.1 ?_
        rw [UInt8.toNat_ofNat']
        exact h1
      rw [hbyte]
      have := dc_run b Q hQ m (q + 1) A (out ++ [c]) (by omega) (by
        rw [hq2, ho, List.take_succ_eq_append_getElem hil, ← hc, List.getD_eq_getElem?_getD, List.getElem?_eq_getElem hil]; rfl) (by rw [hq1, hq2, hw]; exact hlowA)
      rw [hq1] at this
      exact this
    · rw [if_neg h8]
      have hq1 : 6 * (q + 1) % 8 = n + 6 := by omega
      have hq2 : 6 * (q + 1) / 8 = i := by omega
      have := dc_run b Q hQ m (q + 1) A out (by omega) (by rw [hq2, ho]) (by rw [hq1, hq2]; exact hacc)
      rw [hq1] at this
      exact this
/-- What is written is read as it was. -/
theorem dec_enc64 (b : List UInt8) (hl : b.length ≤ 10000) : decS (enc64 b) = (b, 0) := by
  have hlen : (enc64 b).length = (8 * b.length + 5) / 6 := e64_len _ _
  obtain ⟨a', h1, h2⟩ := dc_run b ((8 * b.length + 5) / 6) rfl ((8 * b.length + 5) / 6) 0 0 [] (by omega) (by simp) (by simp [vB])
  rw [List.drop_zero, ← e64_map] at h1
  unfold decS
  rw [if_neg (by omega)]
  have h1' : dcG 0 0 [] (enc64 b) = _ := h1
  rw [h1']
  simp only
  rw [if_neg (by omega)]
end Go.Proofs.YtfemncfhiihckaaDoor
open Go Go.VS
namespace Go.Proofs.YtfemncfhiihckaaDoor
set_option linter.unusedVariables false
set_option linter.unusedSimpArgs false
set_option maxRecDepth 20000
set_option maxHeartbeats 4000000
def ascB (c : UInt8) : Bool := decide (32 ≤ c.toNat) && decide (c.toNat < 128) && decide (c.toNat ≠ 34) && decide (c.toNat ≠ 92)
theorem asc_clean {p : List UInt8} (h : p.all ascB = true) : Clean p := by
  refine ⟨p.map UInt8.toNat, ?_, fun x hx => ?_⟩
  · induction p with
    | nil => rfl
    | cons c p ih =>
      simp only [List.all_cons, Bool.and_eq_true] at h
      rw [List.map_cons, List.flatMap_cons, ← ih h.2]
      have hc := h.1
      simp only [ascB, Bool.and_eq_true, decide_eq_true_eq] at hc
      unfold encB
      rw [if_pos hc.1.1.2]
      simp
  · obtain ⟨c, hc, rfl⟩ := List.mem_map.1 hx
    have := List.all_eq_true.1 h c hc
    simp only [ascB, Bool.and_eq_true, decide_eq_true_eq] at this
    unfold goodR
    omega
theorem str_reads {val : RJ → Nat × RJ} {deep : Nat} {p : List UInt8} (hp : Clean p) : Reads (valueS val) deep (34 :: (p ++ [34])) (fun _ => [⟨3, p, [], []⟩]) := by
  obtain ⟨xs, h1, hx⟩ := hp
  refine value_reads (by decide) (fun _ => by simp) fun s X base hd he hl hb h hX => ?_
  have h' : At s (34 :: (xs.flatMap encB ++ 34 :: X)) := by rw [← h1]; simpa using h
  obtain ⟨a1, a2⟩ := text_reads he h' hx
  have hbd : bodyS val 34 s = (⟨3, (textS s).1, [], []⟩, (textS s).2) := by
    unfold bodyS
    rw [if_neg (by decide), if_neg (by decide), if_pos rfl]
  rw [hbd]
  refine ⟨fun _ => ⟨[], by simp only [a1, ← h1], a2⟩, fun h => ?_⟩
  simp at h; omega
theorem one_reads {val : RJ → Nat × RJ} {deep : Nat} : Reads (valueS val) deep [49] (fun _ => [⟨4, [49], [], []⟩]) := by
  refine value_reads (by decide) (fun _ => by simp) fun s X base hd he hl hb h hX => ?_
  have h' : At s ([49] ++ X) := h
  have hm := h'.move
  obtain ⟨hX1, hX2, hX3⟩ := stop_not hX
  have hp : numP s.b s.at_ = (true, s.at_ + 1) := by
    have a1 : isP s.b s.at_ [45] = (false, s.at_) := isP_no h'.1 (fun c hc => by simp at hc; subst hc; decide)
    have a2 : digP s.b s.at_ = (true, s.at_ + 1) := digP_eq (ds := [49]) h'.1 (by simp [digit]) hX1
    have h1 : s.b.drop (s.at_ + 1) = X := drop_add h'.1 1 (by simp)
    have a3 := isP_no (l := [46]) h1 hX2
    have a4 := isP_no (l := [101, 69]) h1 hX3
    unfold numP numP2 numP4
    simp [a1, a2, a3, a4]
  have hns : numberS s = ([49], { s with at_ := s.at_ + 1 }) := by
    unfold numberS
    rw [hp]
    simp only [if_true]
    rw [h'.1, Nat.add_sub_cancel_left]
    rfl
  have hbd : bodyS val 49 s = (⟨4, (numberS s).1, [], []⟩, (numberS s).2) := by
    unfold bodyS
    rw [if_neg (by decide), if_neg (by decide), if_neg (by decide), if_pos (.inr (by decide))]
  rw [hbd, hns]
  refine ⟨fun _ => ⟨[], rfl, rfl, rfl, he, (List.append_nil _).symm, hm⟩, fun h => ?_⟩
  simp at h; omega
def strN (p : List UInt8) : Nat → List JN := fun _ => [⟨3, p, [], []⟩]
def tyM (g p : List UInt8) : Mem := ⟨g, tyB, [], g, 34 :: (p ++ [34]), strN p, []⟩
def chM (g p : List UInt8) : Mem := ⟨g, chB, [], [], 34 :: (p ++ [34]), strN p, []⟩
def ogM (g p : List UInt8) : Mem := ⟨g, ogB, [], [], 34 :: (p ++ [34]), strN p, []⟩
def strM (nm p : List UInt8) : Mem := ⟨[], nm, [], [], 34 :: (p ++ [34]), strN p, []⟩
def nulM : Mem := ⟨[], tyB, [], [], nullB, fun _ => [⟨7, [], [], []⟩], []⟩
def zIts : List It := [([49], fun _ => [⟨4, [49], [], []⟩]), (123 :: msT nulM [], objN [nulM])]
def zM (g : List UInt8) : Mem := ⟨g, [122], [], [], opT false :: bodyI false [] zIts, groupN false zIts, []⟩
def crM : Nat → List Mem
  | 0 => []
  | 1 => [⟨[], crB, [], [], falseB, fun _ => [⟨6, [], [], []⟩], []⟩]
  | 2 => [⟨[], crB, [], [], trueB, fun _ => [⟨5, [], [], []⟩], []⟩]
  | _ => [⟨[], crB, [], [], [49], fun _ => [⟨4, [49], [], []⟩], []⟩]
def tkL : Nat → Mem × List Mem
  | 1 => (strM stB suB, [])
  | 2 => (strM stB prB, [strM idB [65, 65]])
  | 3 => (strM stB prB, [])
  | _ => (strM stB prB, [strM idB [65]])
def tkM : Nat → List Mem
  | 0 => []
  | t => [⟨[], tkB, [], [], 123 :: msT (tkL t).1 (tkL t).2, objN ((tkL t).1 :: (tkL t).2), []⟩]
def endW (g : List UInt8) : List Mem → List Mem
  | [] => []
  | [m] => [{ m with w3 := g }]
  | m :: m2 :: ms => m :: endW g (m2 :: ms)
def baseM (g k o e : List UInt8) (c t : Nat) : List Mem := tyM g k :: chM g e :: ogM g o :: (crM c ++ tkM t)
def membs (g k o e : List UInt8) (c t : Nat) (dz : Bool) : List Mem := (bif dz then [zM g] else []) ++ baseM g k o e c t
def msL : List Mem → List UInt8
  | [] => [125]
  | m :: ms => msT m ms
theorem endW_nm (g : List UInt8) : ∀ l : List Mem, (endW g l).map Mem.nm = l.map Mem.nm
  | [] => rfl
  | [m] => rfl
  | m :: m2 :: ms => by rw [endW, List.map_cons, endW_nm g (m2 :: ms)]; rfl
theorem endW_it (g : List UInt8) : ∀ l : List Mem, (endW g l).map Mem.it = l.map Mem.it
  | [] => rfl
  | [m] => rfl
  | m :: m2 :: ms => by rw [endW, List.map_cons, endW_it g (m2 :: ms)]; rfl
theorem endW_ok {val : RJ → Nat × RJ} {deep : Nat} {g : List UInt8} (hg : AllB g) : ∀ l : List Mem, (∀ x ∈ l, MemOk val deep x) → ∀ x ∈ endW g l, MemOk val deep x
  | [], _, x, hx => by cases hx
  | [m], h, x, hx => by
    simp only [endW, List.mem_singleton] at hx
    subst hx
    have := h m (by simp)
    exact ⟨this.w0, this.w1, this.w2, hg, this.nm, this.rd⟩
  | m :: m2 :: ms, h, x, hx => by
    rcases List.mem_cons.1 hx with rfl | hx
    · exact h x (by simp)
    · exact endW_ok hg (m2 :: ms) (fun y hy => h y (by simp only [List.mem_cons] at hy ⊢; exact .inr hy)) x hx
theorem endW_len (g : List UInt8) (l : List Mem) : (endW g l).length = l.length := by
  have := congrArg List.length (endW_nm g l)
  simpa using this
theorem objN_end (g : List UInt8) (l : List Mem) : objN (endW g l) = objN l := by
  funext base
  unfold objN
  rw [endW_nm, endW_it]
theorem allB_nil : AllB [] := fun _ h => by cases h
theorem str_ok {val : RJ → Nat × RJ} {deep : Nat} {w0 nm w2 p : List UInt8} (h0 : AllB w0) (h2 : AllB w2) (hn : nm.all ascB = true) (hp : Clean p) : MemOk (valueS val) deep ⟨w0, nm, [], w2, 34 :: (p ++ [34]), strN p, []⟩ :=
  ⟨h0, allB_nil, h2, allB_nil, asc_clean hn, str_reads hp⟩
theorem null_ok {val : RJ → Nat × RJ} {deep : Nat} : MemOk (valueS val) deep nulM := ⟨allB_nil, allB_nil, allB_nil, allB_nil, asc_clean (by decide), leaf_reads 6 []⟩
theorem z_reads {deep : Nat} {n : Nat} (hd : deep + 2 ≤ 8) : Reads (valS (n + 3)) deep (opT false :: bodyI false [] zIts) (groupN false zIts) := by
  refine group_reads (val := valS (n + 2)) allB_nil (by omega) false zIts (by decide) (fun x hx => ?_) (fun x hx => ?_)
  · simp only [zIts, List.mem_cons, List.not_mem_nil, or_false] at hx
    rcases hx with rfl | rfl
    · exact ⟨_, _, rfl, by decide, by decide⟩
    · exact ⟨_, _, rfl, by decide, by decide⟩
  · simp only [zIts, List.mem_cons, List.not_mem_nil, or_false] at hx
    rcases hx with rfl | rfl
    · exact one_reads
    · exact object_reads (val := valS (n + 1)) (by omega) nulM [] (by decide) (by decide) (fun x hx => by
        simp only [List.mem_cons, List.not_mem_nil, or_false] at hx
        subst hx
        exact null_ok)
theorem tk_reads {deep : Nat} {n : Nat} (hd : deep + 1 ≤ 8) (t : Nat) : Reads (valS (n + 2)) deep (123 :: msT (tkL t).1 (tkL t).2) (objN ((tkL t).1 :: (tkL t).2)) := by
  have s1 : MemOk (valS (n + 1)) (deep + 1) (strM stB suB) := str_ok allB_nil allB_nil (by decide) (asc_clean (by decide))
  have s2 : MemOk (valS (n + 1)) (deep + 1) (strM stB prB) := str_ok allB_nil allB_nil (by decide) (asc_clean (by decide))
  have s3 : MemOk (valS (n + 1)) (deep + 1) (strM idB [65, 65]) := str_ok allB_nil allB_nil (by decide) (asc_clean (by decide))
  have s4 : MemOk (valS (n + 1)) (deep + 1) (strM idB [65]) := str_ok allB_nil allB_nil (by decide) (asc_clean (by decide))
  unfold tkL
  split
  · exact object_reads (val := valS (n + 1)) hd _ _ (by decide) (by decide) (fun x hx => by simp only [List.mem_cons, List.not_mem_nil, or_false] at hx; subst hx; exact s1)
  · exact object_reads (val := valS (n + 1)) hd _ _ (by decide) (by decide) (fun x hx => by simp only [List.mem_cons, List.not_mem_nil, or_false] at hx; rcases hx with rfl | rfl; exact s2; exact s3)
  · exact object_reads (val := valS (n + 1)) hd _ _ (by decide) (by decide) (fun x hx => by simp only [List.mem_cons, List.not_mem_nil, or_false] at hx; subst hx; exact s2)
  · exact object_reads (val := valS (n + 1)) hd _ _ (by decide) (by decide) (fun x hx => by simp only [List.mem_cons, List.not_mem_nil, or_false] at hx; rcases hx with rfl | rfl; exact s2; exact s4)
theorem base_ok {g k o e : List UInt8} (hg : AllB g) (hk : Clean k) (ho : Clean o) (he : Clean e) (c t : Nat) : ∀ x ∈ baseM g k o e c t, MemOk (valS 8) 1 x := by
  intro x hx
  simp only [baseM, List.mem_cons, List.mem_append] at hx
  rcases hx with rfl | rfl | rfl | hx | hx
  · exact str_ok hg hg (by decide) hk
  · exact str_ok hg allB_nil (by decide) he
  · exact str_ok hg allB_nil (by decide) ho
  · unfold crM at hx
    split at hx
    · cases hx
    · simp only [List.mem_singleton] at hx
      subst hx
      exact ⟨allB_nil, allB_nil, allB_nil, allB_nil, asc_clean (by decide), leaf_reads 5 []⟩
    · simp only [List.mem_singleton] at hx
      subst hx
      exact ⟨allB_nil, allB_nil, allB_nil, allB_nil, asc_clean (by decide), leaf_reads 4 []⟩
    · simp only [List.mem_singleton] at hx
      subst hx
      exact ⟨allB_nil, allB_nil, allB_nil, allB_nil, asc_clean (by decide), one_reads⟩
  · unfold tkM at hx
    split at hx
    · cases hx
    · simp only [List.mem_singleton] at hx
      subst hx
      exact ⟨allB_nil, allB_nil, allB_nil, allB_nil, asc_clean (p := tkB) (by decide), tk_reads (n := 6) (by omega) _⟩
theorem membs_ok {g k o e : List UInt8} (hg : AllB g) (hk : Clean k) (ho : Clean o) (he : Clean e) (c t : Nat) (dz : Bool) : ∀ x ∈ membs g k o e c t dz, MemOk (valS 8) 1 x := by
  intro x hx
  rcases List.mem_append.1 hx with hx | hx
  · cases dz
    · cases hx
    · simp only [cond_true, List.mem_singleton] at hx
      subst hx
      exact ⟨hg, allB_nil, allB_nil, allB_nil, asc_clean (p := [122]) (by decide), z_reads (n := 5) (by omega)⟩
  · exact base_ok hg hk ho he c t x hx
theorem say_eq (k o c t d : Nat) (dz : Bool) (e : List UInt8) (hc : c < 4) (ht : t < 5) : sayT k o c t d dz e = 123 :: msL (endW (gapC d) (membs (gapC d) (kindC k) (origC o) e c t dz)) := by
  unfold sayT
  generalize gapC d = g
  generalize kindC k = K
  generalize origC o = O
  rcases (by omega : c = 0 ∨ c = 1 ∨ c = 2 ∨ c = 3) with rfl | rfl | rfl | rfl <;> rcases (by omega : t = 0 ∨ t = 1 ∨ t = 2 ∨ t = 3 ∨ t = 4) with rfl | rfl | rfl | rfl | rfl <;> cases dz <;>
    simp [membs, baseM, crM, tkM, tkL, endW, msL, msT, mtext, tyM, chM, ogM, strM, zM, zIts, nulM, bodyI, tailI, preI, opT, shT, crosC, tokC, zB, tyQ, cmQ, chQ, ogQ, tyB, chB, ogB, crB, tkB, stB, idB, suB, prB, trueB, falseB, nullB]
end Go.Proofs.YtfemncfhiihckaaDoor
open Go Go.VS
namespace Go.Proofs.YtfemncfhiihckaaDoor
set_option linter.unusedVariables false
set_option linter.unusedSimpArgs false
set_option maxRecDepth 20000
set_option maxHeartbeats 4000000
theorem dec_AA : decS [65, 65] = ([0], 0) := by
  have := dec_enc64 [0] (by decide)
  rwa [show enc64 [0] = [65, 65] by decide] at this
theorem dec_A : (decS [65]).2 ≠ 0 := by
  have h : dcG 0 0 [] [65] = some (0, 6, []) := by
    rw [dcG, dec_asc 65 [] (by decide)]
    show (if 8 ≤ 0 + 6 then _ else dcG (accB 0 0) (0 + 6) [] (([65] : List UInt8).drop 1)) = _
    rw [if_neg (by decide), show (([65] : List UInt8).drop 1) = [] from rfl, dcG]
    rfl
  unfold decS
  rw [if_neg (by decide), h]
  decide
theorem cli_of {l : List JN} {K D O dr : List UInt8} (h1 : textJ l 0 tyB = some K) (h2 : textJ l 0 chB = some D) (h3 : textJ l 0 ogB = some O) (hd : decS D = (dr, 0)) : cliS l 0 = crossS l ⟨K, O, dr, false, false, []⟩ := by
  unfold cliS
  rw [if_neg (by simp), h1, h2, h3]
  simp only [hd]
  rfl
theorem cross_none {l : List JN} {c : CL} (h : getJ l 0 crB = none) : crossS l c = tokS l c := by unfold crossS; rw [h]
theorem cross_t {l : List JN} {c : CL} {j : Nat} (h : getJ l 0 crB = some j) (h2 : (l.getD j default).k = 5) : crossS l c = tokS l { c with cross := true } := by unfold crossS; rw [h]; exact if_pos h2
theorem cross_f {l : List JN} {c : CL} {j : Nat} (h : getJ l 0 crB = some j) (h2 : (l.getD j default).k = 6) : crossS l c = tokS l c := by
  unfold crossS; rw [h]
  exact (if_neg (by rw [h2]; decide)).trans (if_pos h2)
theorem cross_b {l : List JN} {c : CL} {j : Nat} (h : getJ l 0 crB = some j) (h2 : (l.getD j default).k = 4) : crossS l c = (CL.zero, 61) := by
  unfold crossS; rw [h]
  exact (if_neg (by rw [h2]; decide)).trans (if_neg (by rw [h2]; decide))
theorem tok_none {l : List JN} {c : CL} (h : getJ l 0 tkB = none) : tokS l c = (c, 0) := by unfold tokS; rw [h]
theorem tok_su {l : List JN} {c : CL} {j : Nat} (h : getJ l 0 tkB = some j) (h2 : textJ l j stB = some suB) : tokS l c = (c, 0) := by
  unfold tokS; rw [h]; simp only [h2]
  exact (if_neg (fun x => absurd x.1 (by decide))).trans (if_pos trivial)
theorem tok_pr {l : List JN} {c : CL} {j : Nat} (h : getJ l 0 tkB = some j) (h2 : textJ l j stB = some prB) (h3 : textJ l j idB = some [65, 65]) : tokS l c = ({ c with bound := true, tok := [65, 65] }, 0) := by
  unfold tokS; rw [h]; simp only [h2, h3]
  refine (if_pos ⟨trivial, rfl⟩).trans ?_
  rw [Option.getD_some, dec_AA]
  rfl
theorem tok_bad {l : List JN} {c : CL} {j : Nat} (h : getJ l 0 tkB = some j) (h2 : textJ l j stB = some prB) (h3 : textJ l j idB = some [65]) : tokS l c = (CL.zero, 61) := by
  unfold tokS; rw [h]; simp only [h2, h3]
  refine (if_pos ⟨trivial, rfl⟩).trans ?_
  rw [Option.getD_some]
  exact if_neg dec_A
theorem tok_no {l : List JN} {c : CL} {j : Nat} (h : getJ l 0 tkB = some j) (h2 : textJ l j stB = some prB) (h3 : textJ l j idB = none) : tokS l c = (CL.zero, 61) := by
  unfold tokS; rw [h]; simp only [h2, h3]
  exact (if_neg (fun x => by cases x.2)).trans (if_neg (by decide))
/-- What is wanted of what was said. -/
def wantS (k o : List UInt8) (dr : List UInt8) (c t : Nat) : CL × Nat :=
  if c = 3 ∨ 3 ≤ t then (CL.zero, 61) else (⟨k, o, dr, decide (c = 2), decide (t = 2), if t = 2 then [65, 65] else []⟩, 0)
theorem say_cli (g k o e dr : List UInt8) (c t : Nat) (dz : Bool) (hc : c < 4) (ht : t < 5) (hd : decS e = (dr, 0)) : cliS (objN (membs g k o e c t dz) 0) 0 = wantS k o dr c t := by
  rcases (by omega : c = 0 ∨ c = 1 ∨ c = 2 ∨ c = 3) with rfl | rfl | rfl | rfl <;> rcases (by omega : t = 0 ∨ t = 1 ∨ t = 2 ∨ t = 3 ∨ t = 4) with rfl | rfl | rfl | rfl | rfl <;> cases dz <;>
    (rw [cli_of (K := k) (D := e) (O := o) rfl rfl rfl hd]
     first | rw [cross_none rfl] | rw [cross_t rfl rfl] | rw [cross_f rfl rfl] | rw [cross_b rfl rfl]
     try first | rw [tok_none rfl] | rw [tok_su rfl rfl] | rw [tok_pr rfl rfl rfl] | rw [tok_bad rfl rfl rfl] | rw [tok_no rfl rfl rfl]
     rfl)
theorem say_few (g k o e : List UInt8) (c t : Nat) (dz : Bool) (hc : c < 4) (ht : t < 5) : (objN (membs g k o e c t dz) 0).length ≤ 256 := by
  rcases (by omega : c = 0 ∨ c = 1 ∨ c = 2 ∨ c = 3) with rfl | rfl | rfl | rfl <;> rcases (by omega : t = 0 ∨ t = 1 ∨ t = 2 ∨ t = 3 ∨ t = 4) with rfl | rfl | rfl | rfl | rfl <;> cases dz <;>
    exact Nat.le_of_ble_eq_true rfl
theorem say_names (g k o e : List UInt8) (c t : Nat) (dz : Bool) (hc : c < 4) (ht : t < 5) : ((membs g k o e c t dz).map Mem.nm).Nodup := by
  rcases (by omega : c = 0 ∨ c = 1 ∨ c = 2 ∨ c = 3) with rfl | rfl | rfl | rfl <;> rcases (by omega : t = 0 ∨ t = 1 ∨ t = 2 ∨ t = 3 ∨ t = 4) with rfl | rfl | rfl | rfl | rfl <;> cases dz <;>
    (simp only [membs, baseM, crM, tkM, cond_true, cond_false, List.nil_append, List.cons_append, List.map_cons, List.map_nil, tyM, chM, ogM, zM]; decide)
theorem lits_clean : ∀ j, Clean (kindC j) ∧ Clean (origC j) ∧ AllB (gapC j) ∧ (kindC j).length ≤ 60 ∧ (origC j).length ≤ 60 ∧ (gapC j).length ≤ 60 := by
  intro j
  refine ⟨?_, ?_, ?_, ?_, ?_, ?_⟩
  · unfold kindC; split <;> exact asc_clean (by decide)
  · unfold origC; split <;> exact asc_clean (by decide)
  · unfold gapC AllB; split <;> decide
  · unfold kindC; split <;> decide
  · unfold origC; split <;> decide
  · unfold gapC; split <;> decide
theorem enc_clean (b : List UInt8) : Clean (enc64 b) := by
  refine asc_clean (List.all_eq_true.2 fun c hc => ?_)
  unfold enc64 at hc
  rw [e64_map] at hc
  obtain ⟨q, _, rfl⟩ := List.mem_map.1 hc
  have h : ∀ v : Fin 64, ascB (sgAt v.val) = true := by decide
  exact h ⟨_, vB_lt b (6 * q) 6⟩
/-- What Parse comes to on what a browser says. -/
theorem say_parse (k o c t d : Nat) (dz : Bool) (b : List UInt8) (hc : c < 4) (ht : t < 5) (hl : b.length ≤ 1000) : parseS (sayT k o c t d dz (enc64 b)) = (objN (membs (gapC d) (kindC k) (origC o) (enc64 b) c t dz) 0, 0) := by
  obtain ⟨_, _, hg, _, _, hgl⟩ := lits_clean d
  obtain ⟨hk, _, _, hkl, _, _⟩ := lits_clean k
  obtain ⟨_, ho, _, _, hol, _⟩ := lits_clean o
  have hel : (enc64 b).length = (8 * b.length + 5) / 6 := e64_len _ _
  have hcl : (crosC c).length ≤ 60 := by unfold crosC; split <;> decide
  have htl : (tokC t).length ≤ 60 := by unfold tokC; split <;> decide
  have hlen : (sayT k o c t d dz (enc64 b)).length ≤ 4096 := by
    unfold sayT
    cases dz <;> simp only [cond_true, cond_false, List.length_append, List.length_cons, List.length_nil] <;> omega
  have hR : Reads (valS 9) 0 (sayT k o c t d dz (enc64 b)) (objN (membs (gapC d) (kindC k) (origC o) (enc64 b) c t dz)) := by
    rw [say_eq k o c t d dz _ hc ht, ← objN_end (gapC d)]
    have hok := endW_ok hg _ (membs_ok hg hk ho (enc_clean b) c t dz)
    have hnm := say_names (gapC d) (kindC k) (origC o) (enc64 b) c t dz hc ht
    rw [← endW_nm (gapC d)] at hnm
    have hcount : (endW (gapC d) (membs (gapC d) (kindC k) (origC o) (enc64 b) c t dz)).length < 200 ∧ 1 ≤ (endW (gapC d) (membs (gapC d) (kindC k) (origC o) (enc64 b) c t dz)).length := by
      rw [endW_len]
      have h1 : (crM c).length ≤ 1 := by unfold crM; split <;> simp
      have h2 : (tkM t).length ≤ 1 := by unfold tkM; split <;> simp
      unfold membs baseM
      cases dz <;> simp only [cond_true, cond_false, List.length_append, List.length_cons, List.length_nil] <;> omega
    generalize endW (gapC d) (membs (gapC d) (kindC k) (origC o) (enc64 b) c t dz) = L at *
    cases L with
    | nil => simp at hcount
    | cons m ms => exact object_reads (val := valS 8) (by omega) m ms (by have := hcount.1; simp only [List.length_cons] at this; omega) hnm hok
  rw [parse_reads hR hlen, if_pos (say_few _ _ _ _ c t dz hc ht)]
end Go.Proofs.YtfemncfhiihckaaDoor
open Go Go.VS
namespace Go.Proofs.YtfemncfhiihckaaDoor
set_option linter.unusedVariables false
set_option linter.unusedSimpArgs false
set_option maxRecDepth 20000
set_option maxHeartbeats 4000000
def mvM : Nat → List UInt8 × (Nat → List JN)
  | 0 => ([49], fun _ => [⟨4, [49], [], []⟩])
  | 1 => (nullB, fun _ => [⟨7, [], [], []⟩])
  | 2 => (123 :: msT (strM tyB [120]) [], objN [strM tyB [120]])
  | _ => (opT false :: bodyI false [] [(34 :: ([65, 65] ++ [34]), strN [65, 65])], groupN false [(34 :: ([65, 65] ++ [34]), strN [65, 65])])
def nmM (i : Nat) (n : UInt8) : List UInt8 := [109, UInt8.ofNat (97 + i), UInt8.ofNat (97 + n.toNat % 26)]
def moM (i : Nat) (n : UInt8) : Mem := ⟨[], nmM i n, [], [], (mvM (n.toNat % 4)).1, (mvM (n.toNat % 4)).2, []⟩
def moreL : Nat → List UInt8 → List Mem
  | _, [] => []
  | i, n :: ns => moM i n :: moreL (i + 1) ns
def flatM (l : List Mem) : List UInt8 := l.flatMap fun m => mtext m [44]
theorem moreL_len : ∀ (ns : List UInt8) (i : Nat), (moreL i ns).length = ns.length
  | [], _ => rfl
  | n :: ns, i => by rw [moreL, List.length_cons, moreL_len ns (i + 1)]; rfl
theorem mtext_pre (m : Mem) (r : List UInt8) : ∃ p, mtext m r = p ++ r ∧ ∀ r', mtext m r' = p ++ r' :=
  ⟨m.w0 ++ 34 :: (m.nm ++ 34 :: (m.w1 ++ 58 :: (m.w2 ++ (m.T ++ m.w3)))), by simp [mtext], fun r' => by simp [mtext]⟩
theorem msL_flat : ∀ (l : List Mem), l ≠ [] → msL l = (flatM l).dropLast ++ [125]
  | [], h => absurd rfl h
  | [m], _ => by
    obtain ⟨p, _, hp⟩ := mtext_pre m []
    show mtext m [125] = (mtext m [44] ++ []).dropLast ++ [125]
    rw [List.append_nil, hp, hp, List.dropLast_concat]
  | m :: m2 :: ms, _ => by
    have ih := msL_flat (m2 :: ms) (by simp)
    obtain ⟨p, _, hp⟩ := mtext_pre m []
    have hne : flatM (m2 :: ms) ≠ [] := by
      obtain ⟨p2, _, hp2⟩ := mtext_pre m2 []
      show mtext m2 [44] ++ _ ≠ []
      rw [hp2]; simp
    show mtext m (44 :: msL (m2 :: ms)) = (mtext m [44] ++ flatM (m2 :: ms)).dropLast ++ [125]
    rw [ih, hp, hp, List.dropLast_append_of_ne_nil hne]
    simp
theorem msL_app : ∀ (a b : List Mem), b ≠ [] → msL (a ++ b) = flatM a ++ msL b
  | [], b, _ => rfl
  | m :: a, b, hb => by
    obtain ⟨m2, ms, h2⟩ : ∃ m2 ms, a ++ b = m2 :: ms := by
      cases a with
      | nil => cases b with
        | nil => exact absurd rfl hb
        | cons x y => exact ⟨x, y, rfl⟩
      | cons x y => exact ⟨x, y ++ b, rfl⟩
    have ih := msL_app a b hb
    obtain ⟨p, _, hp⟩ := mtext_pre m []
    show msL (m :: (a ++ b)) = (mtext m [44] ++ flatM a) ++ msL b
    rw [List.append_assoc, ← ih, h2]
    show mtext m (44 :: msL (m2 :: ms)) = mtext m [44] ++ msL (m2 :: ms)
    rw [hp, hp]; simp
theorem mv_reads {n : Nat} (j : Nat) : Reads (valS (n + 3)) 1 (mvM j).1 (mvM j).2 := by
  unfold mvM
  split
  · exact one_reads
  · exact leaf_reads 6 []
  · exact object_reads (val := valS (n + 2)) (by omega) _ _ (by decide) (by decide) (fun x hx => by
      simp only [List.mem_cons, List.not_mem_nil, or_false] at hx
      subst hx
      exact str_ok allB_nil allB_nil (by decide) (asc_clean (by decide)))
  · refine group_reads (val := valS (n + 2)) allB_nil (by omega) false _ (by decide) (fun x hx => ?_) (fun x hx => ?_)
    · simp only [List.mem_cons, List.not_mem_nil, or_false] at hx
      subst hx
      exact ⟨_, _, rfl, by decide, by decide⟩
    · simp only [List.mem_cons, List.not_mem_nil, or_false] at hx
      subst hx
      exact str_reads (asc_clean (by decide))
theorem nm_asc2 (i : Nat) (n : UInt8) (hi : i < 30) : (nmM i n).all ascB = true := by
  have h1 : (UInt8.ofNat (97 + i)).toNat = 97 + i := ofN _ (by omega)
  have h2 : (UInt8.ofNat (97 + n.toNat % 26)).toNat = 97 + n.toNat % 26 := ofN _ (by omega)
  simp only [nmM, List.all_cons, List.all_nil, ascB, Bool.and_true, Bool.and_eq_true, decide_eq_true_eq, h1, h2]
  refine ⟨by decide, ?_, ?_⟩ <;> omega
theorem more_ok : ∀ (ns : List UInt8) (i : Nat), i + ns.length ≤ 30 → ∀ x ∈ moreL i ns, MemOk (valS 8) 1 x
  | [], _, _, x, hx => by cases hx
  | n :: ns, i, h, x, hx => by
    simp only [List.length_cons] at h
    rcases List.mem_cons.1 hx with rfl | hx
    · exact ⟨allB_nil, allB_nil, allB_nil, allB_nil, asc_clean (nm_asc2 i n (by omega)), mv_reads (n := 5) _⟩
    · exact more_ok ns (i + 1) (by omega) x hx
theorem more_nm : ∀ (ns : List UInt8) (i : Nat), ∀ x ∈ (moreL i ns).map Mem.nm, ∃ j n, x = nmM j n ∧ i ≤ j ∧ j < i + ns.length
  | [], _, x, hx => by cases hx
  | n :: ns, i, x, hx => by
    rcases List.mem_cons.1 hx with rfl | hx
    · exact ⟨i, n, rfl, Nat.le_refl _, by simp⟩
    · obtain ⟨j, m, h1, h2, h3⟩ := more_nm ns (i + 1) x hx
      exact ⟨j, m, h1, by omega, by simp only [List.length_cons]; omega⟩
theorem nm_inj {i j : Nat} {n m : UInt8} (hi : i < 30) (hj : j < 30) (h : nmM i n = nmM j m) : i = j := by
  have := congrArg UInt8.toNat (List.cons.inj (List.cons.inj h).2).1
  rw [ofN _ (by omega), ofN _ (by omega)] at this
  omega
theorem more_nodup : ∀ (ns : List UInt8) (i : Nat), i + ns.length ≤ 30 → ((moreL i ns).map Mem.nm).Nodup
  | [], _, _ => List.nodup_nil
  | n :: ns, i, h => by
    simp only [List.length_cons] at h
    rw [moreL, List.map_cons, List.nodup_cons]
    refine ⟨fun hm => ?_, more_nodup ns (i + 1) (by omega)⟩
    obtain ⟨j, m, h1, h2, h3⟩ := more_nm ns (i + 1) _ hm
    have := nm_inj (by omega) (by omega) (show nmM i n = nmM j m from h1)
    omega
theorem nodesI_app : ∀ (a b : List It) (s : Nat), nodesI s (a ++ b) = ((nodesI s a).1 ++ (nodesI (s + (nodesI s a).1.length) b).1, (nodesI s a).2 ++ (nodesI (s + (nodesI s a).1.length) b).2)
  | [], b, s => rfl
  | x :: a, b, s => by
    simp only [List.cons_append, nodesI]
    rw [nodesI_app a b (s + (x.2 s).length)]
    simp only [List.append_assoc, List.length_append, List.cons_append, Nat.add_assoc]
theorem nodesI_ids : ∀ (a : List It) (s : Nat), (nodesI s a).2.length = a.length
  | [], _ => rfl
  | x :: a, s => by simp only [nodesI, List.length_cons, nodesI_ids a]
theorem more_few : ∀ (ns : List UInt8) (i s : Nat), (nodesI s ((moreL i ns).map Mem.it)).1.length ≤ 2 * ns.length
  | [], _, _ => Nat.le_refl _
  | n :: ns, i, s => by
    have h := more_few ns (i + 1) (s + ((mvM (n.toNat % 4)).2 s).length)
    have h1 : ((mvM (n.toNat % 4)).2 s).length ≤ 2 := by
      unfold mvM
      split <;> exact Nat.le_of_ble_eq_true rfl
    simp only [moreL, List.map_cons, nodesI, List.length_append, List.length_cons]
    have h2 : (Mem.it (moM i n)).2 = (mvM (n.toNat % 4)).2 := rfl
    rw [h2]
    omega
/-- Where a name stands: ahead, or behind, others do no harm. -/
theorem find_app {nA nB : List (List UInt8)} {kA kB : List Nat} {t : List UInt8} (hl : nA.length = kA.length) (h : t ∉ nA) : ((nA ++ nB).zip (kA ++ kB)).find? (fun z => decide (z.1 = t)) = (nB.zip kB).find? (fun z => decide (z.1 = t)) := by
  rw [List.zip_append hl, List.find?_append, List.find?_eq_none.2, Option.none_or]
  intro z hz
  simp only [decide_eq_true_eq]
  intro e
  exact h (e ▸ (List.of_mem_zip hz).1)
theorem find_app2 {nA nB : List (List UInt8)} {kA kB : List Nat} {t : List UInt8} (hl : nB.length = kB.length) (h : t ∉ nA) : ((nB ++ nA).zip (kB ++ kA)).find? (fun z => decide (z.1 = t)) = (nB.zip kB).find? (fun z => decide (z.1 = t)) := by
  have hno : (nA.zip kA).find? (fun z => decide (z.1 = t)) = none := List.find?_eq_none.2 fun z hz => by
    simp only [decide_eq_true_eq]
    intro e
    exact h (e ▸ (List.of_mem_zip hz).1)
  rw [List.zip_append hl, List.find?_append, hno, Option.or_none]
theorem text_at {l : List JN} {i j : Nat} {nm p : List UInt8} {ns : List (List UInt8)} {ks : List Nat} (h : getJ l i nm = some j) (h2 : l.getD j default = ⟨3, p, ns, ks⟩) : textJ l i nm = some p := by
  unfold textJ; rw [h]; simp only [h2]; rfl
theorem kind_at {l : List JN} {j k : Nat} {n : JN} (h : l.getD j default = n) (hk : n.k = k) : (l.getD j default).k = k := by rw [h, hk]
theorem get_at {l : List JN} {i : Nat} {n : JN} (h : l.getD i default = n) (t : List UInt8) : getJ l i t = ((n.ns.zip n.ks).find? (fun z => decide (z.1 = t))).map (·.2) := by unfold getJ; rw [h]
theorem textno_at {l : List JN} {i : Nat} {nm : List UInt8} (h : getJ l i nm = none) : textJ l i nm = none := by unfold textJ; rw [h]
/-- What is taken depends on the base's members alone, wherever they stand. -/
theorem cli_where {l rest : List JN} {S : Nat} {k o e dr : List UInt8} {c t : Nat} (hc : c < 4) (ht : t < 5) (hd : decS e = (dr, 0))
    (hr : ∀ nm, nm = tyB ∨ nm = chB ∨ nm = ogB ∨ nm = crB ∨ nm = tkB → getJ l 0 nm = ((((baseM [] k o e c t).map Mem.nm).zip (nodesI S ((baseM [] k o e c t).map Mem.it)).2).find? (fun z => decide (z.1 = nm))).map (·.2))
    (hn : ∀ j, j < (nodesI S ((baseM [] k o e c t).map Mem.it)).1.length → l.getD (S + j) default = (nodesI S ((baseM [] k o e c t).map Mem.it)).1.getD j default) : cliS l 0 = wantS k o dr c t := by
  have r1 := hr tyB (.inl rfl)
  have r2 := hr chB (.inr (.inl rfl))
  have r3 := hr ogB (.inr (.inr (.inl rfl)))
  have r4 := hr crB (.inr (.inr (.inr (.inl rfl))))
  have r5 := hr tkB (.inr (.inr (.inr (.inr rfl))))
  clear hr
  rcases (by omega : c = 0 ∨ c = 1 ∨ c = 2 ∨ c = 3) with rfl | rfl | rfl | rfl <;> rcases (by omega : t = 0 ∨ t = 1 ∨ t = 2 ∨ t = 3 ∨ t = 4) with rfl | rfl | rfl | rfl | rfl <;>
    (rw [cli_of (text_at (r1.trans rfl) ((hn 0 (Nat.le_of_ble_eq_true rfl)).trans rfl)) (text_at (r2.trans rfl) ((hn 1 (Nat.le_of_ble_eq_true rfl)).trans rfl)) (text_at (r3.trans rfl) ((hn 2 (Nat.le_of_ble_eq_true rfl)).trans rfl)) hd]
     first
     | rw [cross_none (r4.trans rfl)]
     | rw [cross_t (r4.trans rfl) (kind_at ((hn 3 (Nat.le_of_ble_eq_true rfl)).trans rfl) rfl)]
     | rw [cross_f (r4.trans rfl) (kind_at ((hn 3 (Nat.le_of_ble_eq_true rfl)).trans rfl) rfl)]
     | rw [cross_b (r4.trans rfl) (kind_at ((hn 3 (Nat.le_of_ble_eq_true rfl)).trans rfl) rfl)]
     try first
     | rw [tok_none (r5.trans rfl)]
     | rw [tok_su (r5.trans rfl) (text_at ((get_at ((hn 3 (Nat.le_of_ble_eq_true rfl)).trans rfl) stB).trans rfl) ((hn 4 (Nat.le_of_ble_eq_true rfl)).trans rfl))]
     | rw [tok_su (r5.trans rfl) (text_at ((get_at ((hn 4 (Nat.le_of_ble_eq_true rfl)).trans rfl) stB).trans rfl) ((hn 5 (Nat.le_of_ble_eq_true rfl)).trans rfl))]
     | rw [tok_pr (r5.trans rfl) (text_at ((get_at ((hn 3 (Nat.le_of_ble_eq_true rfl)).trans rfl) stB).trans rfl) ((hn 4 (Nat.le_of_ble_eq_true rfl)).trans rfl)) (text_at ((get_at ((hn 3 (Nat.le_of_ble_eq_true rfl)).trans rfl) idB).trans rfl) ((hn 5 (Nat.le_of_ble_eq_true rfl)).trans rfl))]
     | rw [tok_pr (r5.trans rfl) (text_at ((get_at ((hn 4 (Nat.le_of_ble_eq_true rfl)).trans rfl) stB).trans rfl) ((hn 5 (Nat.le_of_ble_eq_true rfl)).trans rfl)) (text_at ((get_at ((hn 4 (Nat.le_of_ble_eq_true rfl)).trans rfl) idB).trans rfl) ((hn 6 (Nat.le_of_ble_eq_true rfl)).trans rfl))]
     | rw [tok_bad (r5.trans rfl) (text_at ((get_at ((hn 3 (Nat.le_of_ble_eq_true rfl)).trans rfl) stB).trans rfl) ((hn 4 (Nat.le_of_ble_eq_true rfl)).trans rfl)) (text_at ((get_at ((hn 3 (Nat.le_of_ble_eq_true rfl)).trans rfl) idB).trans rfl) ((hn 5 (Nat.le_of_ble_eq_true rfl)).trans rfl))]
     | rw [tok_bad (r5.trans rfl) (text_at ((get_at ((hn 4 (Nat.le_of_ble_eq_true rfl)).trans rfl) stB).trans rfl) ((hn 5 (Nat.le_of_ble_eq_true rfl)).trans rfl)) (text_at ((get_at ((hn 4 (Nat.le_of_ble_eq_true rfl)).trans rfl) idB).trans rfl) ((hn 6 (Nat.le_of_ble_eq_true rfl)).trans rfl))]
     | rw [tok_no (r5.trans rfl) (text_at ((get_at ((hn 3 (Nat.le_of_ble_eq_true rfl)).trans rfl) stB).trans rfl) ((hn 4 (Nat.le_of_ble_eq_true rfl)).trans rfl)) (textno_at ((get_at ((hn 3 (Nat.le_of_ble_eq_true rfl)).trans rfl) idB).trans rfl))]
     | rw [tok_no (r5.trans rfl) (text_at ((get_at ((hn 4 (Nat.le_of_ble_eq_true rfl)).trans rfl) stB).trans rfl) ((hn 5 (Nat.le_of_ble_eq_true rfl)).trans rfl)) (textno_at ((get_at ((hn 4 (Nat.le_of_ble_eq_true rfl)).trans rfl) idB).trans rfl))]
     rfl)
end Go.Proofs.YtfemncfhiihckaaDoor
open Go Go.VS
namespace Go.Proofs.YtfemncfhiihckaaDoor
set_option linter.unusedVariables false
set_option linter.unusedSimpArgs false
set_option maxRecDepth 20000
set_option maxHeartbeats 4000000
theorem endW_nil : ∀ l : List Mem, (∀ m ∈ l, m.w3 = []) → endW [] l = l
  | [], _ => rfl
  | [m], h => by
    have := h m (by simp)
    obtain ⟨a, b, c, d, e, f, g⟩ := m
    simp only at this
    subst this
    rfl
  | m :: m2 :: ms, h => by rw [endW, endW_nil (m2 :: ms) fun x hx => h x (by simp only [List.mem_cons] at hx ⊢; exact .inr hx)]
theorem base_w3 (k o e : List UInt8) (c t : Nat) : ∀ m ∈ baseM [] k o e c t, m.w3 = [] := by
  intro m hm
  simp only [baseM, List.mem_cons, List.mem_append] at hm
  rcases hm with rfl | rfl | rfl | hm | hm
  · rfl
  · rfl
  · rfl
  · unfold crM at hm
    split at hm <;> simp at hm <;> subst hm <;> rfl
  · unfold tkM at hm
    split at hm <;> simp at hm
    subst hm; rfl
/-- What is said without blanks. -/
theorem say_plain (k o c t : Nat) (e : List UInt8) (hc : c < 4) (ht : t < 5) : sayT k o c t 0 false e = 123 :: msL (baseM [] (kindC k) (origC o) e c t) := by
  rw [say_eq k o c t 0 false e hc ht]
  show 123 :: msL (endW [] (baseM [] (kindC k) (origC o) e c t)) = _
  rw [endW_nil _ (base_w3 _ _ _ c t)]
theorem base_names (g k o e : List UInt8) (c t : Nat) : (baseM g k o e c t).map Mem.nm = tyB :: chB :: ogB :: ((crM c).map Mem.nm ++ (tkM t).map Mem.nm) := by
  simp [baseM, tyM, chM, ogM]
theorem cr_names (c : Nat) : ∀ x ∈ (crM c).map Mem.nm, x = crB := by
  unfold crM
  split <;> simp
theorem tk_names (t : Nat) : ∀ x ∈ (tkM t).map Mem.nm, x = tkB := by
  unfold tkM
  split <;> simp
theorem base_in {g k o e : List UInt8} {c t : Nat} {x : List UInt8} (h : x ∈ (baseM g k o e c t).map Mem.nm) : x = tyB ∨ x = chB ∨ x = ogB ∨ x = crB ∨ x = tkB := by
  rw [base_names] at h
  simp only [List.mem_cons, List.mem_append] at h
  rcases h with h | h | h | h | h
  · exact .inl h
  · exact .inr (.inl h)
  · exact .inr (.inr (.inl h))
  · exact .inr (.inr (.inr (.inl (cr_names c x h))))
  · exact .inr (.inr (.inr (.inr (tk_names t x h))))
theorem more_not (ns : List UInt8) {x : List UInt8} (h : x = tyB ∨ x = chB ∨ x = ogB ∨ x = crB ∨ x = tkB) : x ∉ (moreL 0 ns).map Mem.nm := by
  intro hm
  obtain ⟨j, n, rfl, _, _⟩ := more_nm ns 0 x hm
  have hl : (nmM j n).length = 3 := rfl
  rcases h with h | h | h | h | h <;> (rw [h] at hl; exact absurd hl (by decide))
theorem base_count (g k o e : List UInt8) (c t : Nat) : (baseM g k o e c t).length ≤ 5 := by
  have h1 : (crM c).length ≤ 1 := by unfold crM; split <;> simp
  have h2 : (tkM t).length ≤ 1 := by unfold tkM; split <;> simp
  simp only [baseM, List.length_cons, List.length_append]; omega
theorem base_few (k o e : List UInt8) (c t s : Nat) (hc : c < 4) (ht : t < 5) : (nodesI s ((baseM [] k o e c t).map Mem.it)).1.length ≤ 10 := by
  rcases (by omega : c = 0 ∨ c = 1 ∨ c = 2 ∨ c = 3) with rfl | rfl | rfl | rfl <;> rcases (by omega : t = 0 ∨ t = 1 ∨ t = 2 ∨ t = 3 ∨ t = 4) with rfl | rfl | rfl | rfl | rfl <;>
    exact Nat.le_of_ble_eq_true rfl
theorem objs_reads {L : List Mem} (hne : 1 ≤ L.length) (h200 : L.length ≤ 100) (hok : ∀ x ∈ L, MemOk (valS 8) 1 x) (hnd : (L.map Mem.nm).Nodup) (hl : (123 :: msL L).length ≤ 4096) (hf : (objN L 0).length ≤ 256) : parseS (123 :: msL L) = (objN L 0, 0) := by
  cases L with
  | nil => simp at hne
  | cons m ms =>
    have hR : Reads (valS 9) 0 (123 :: msT m ms) (objN (m :: ms)) := object_reads (val := valS 8) (by omega) m ms (by simp only [List.length_cons] at h200; omega) hnd hok
    have := parse_reads hR hl
    rw [if_pos hf] at this
    exact this
theorem flat_app (a b : List Mem) : flatM (a ++ b) = flatM a ++ flatM b := by simp [flatM]
theorem more_text : ∀ (ns : List UInt8) (i : Nat), (flatM (moreL i ns)).length ≤ 25 * ns.length
  | [], _ => Nat.le_refl _
  | n :: ns, i => by
    have ih := more_text ns (i + 1)
    have h1 : (mvM (n.toNat % 4)).1.length ≤ 16 := by
      unfold mvM
      split <;> decide
    have h2 : (mtext (moM i n) [44]).length = (mvM (n.toNat % 4)).1.length + 7 := by
      simp only [mtext, moM, nmM, List.length_append, List.length_cons, List.length_nil]; omega
    show (mtext (moM i n) [44] ++ flatM (moreL (i + 1) ns)).length ≤ _
    rw [List.length_append, List.length_cons]
    omega
theorem msL_len (L : List Mem) (h : L ≠ []) : (msL L).length = (flatM L).length := by
  rw [msL_flat L h, List.length_append, List.length_dropLast, List.length_cons, List.length_nil]
  have : flatM L ≠ [] := by
    cases L with
    | nil => exact absurd rfl h
    | cons m ms =>
      obtain ⟨p, _, hp⟩ := mtext_pre m []
      show mtext m [44] ++ _ ≠ []
      rw [hp]; simp
  have := List.length_pos_iff.2 this
  omega
section
variable (k o e dr : List UInt8) (c t : Nat) (ns : List UInt8) (hc : c < 4) (ht : t < 5) (hk : Clean k) (ho : Clean o) (he : Clean e) (hd : decS e = (dr, 0)) (hns : ns.length ≤ 30) (hlen : (flatM (baseM [] k o e c t)).length ≤ 3000)
include hc ht hk ho he hd hns hlen
theorem more_front : ∃ l, parseS (123 :: (flatM (moreL 0 ns) ++ msL (baseM [] k o e c t))) = (l, 0) ∧ cliS l 0 = wantS k o dr c t := by
  have hb : baseM [] k o e c t ≠ [] := by simp [baseM]
  have hbl := base_count [] k o e c t
  have hml := moreL_len ns 0
  have hmt := more_text ns 0
  have hms := msL_len (baseM [] k o e c t) hb
  rw [← msL_app _ _ hb]
  have hnd : ((moreL 0 ns ++ baseM [] k o e c t).map Mem.nm).Nodup := by
    rw [List.map_append, List.nodup_append]
    exact ⟨more_nodup ns 0 (by omega), say_names [] k o e c t false hc ht, fun a ha b hb' e => more_not ns (base_in (e ▸ hb')) ha⟩
  have hf : (objN (moreL 0 ns ++ baseM [] k o e c t) 0).length ≤ 256 := by
    have h1 := more_few ns 0 1
    have h2 := base_few k o e c t (1 + (nodesI 1 ((moreL 0 ns).map Mem.it)).1.length) hc ht
    simp only [objN, List.map_append, nodesI_app, List.length_cons, List.length_append, Nat.zero_add]
    omega
  refine ⟨_, objs_reads (by simp only [List.length_append, baseM, List.length_cons]; omega) (by simp only [List.length_append]; omega) (fun x hx => ?_) hnd ?_ hf, ?_⟩
  · rcases List.mem_append.1 hx with hx | hx
    · exact more_ok ns 0 (by omega) x hx
    · exact base_ok allB_nil hk ho he c t x hx
  · rw [List.length_cons, msL_len _ (by simp [baseM]), flat_app, List.length_append]; omega
  · refine cli_where (S := 1 + (nodesI 1 ((moreL 0 ns).map Mem.it)).1.length) (rest := []) hc ht hd (fun nm hnm => ?_) fun j hj => ?_
    · unfold getJ objN
      simp only [List.getD_cons_zero, List.map_append, nodesI_app, Nat.zero_add]
      rw [find_app (by rw [nodesI_ids, List.length_map, List.length_map]) (more_not ns hnm)]
    · unfold objN
      simp only [List.map_append, nodesI_app, Nat.zero_add]
      rw [show 1 + (nodesI 1 ((moreL 0 ns).map Mem.it)).1.length + j = ((nodesI 1 ((moreL 0 ns).map Mem.it)).1.length + j) + 1 by omega, List.getD_cons_succ, List.getD_eq_getElem?_getD, List.getElem?_append_right (by omega), Nat.add_sub_cancel_left, ← List.getD_eq_getElem?_getD]
theorem more_back (h0 : ns ≠ []) : ∃ l, parseS (123 :: (flatM (baseM [] k o e c t) ++ msL (moreL 0 ns))) = (l, 0) ∧ cliS l 0 = wantS k o dr c t := by
  have hml := moreL_len ns 0
  have hm : moreL 0 ns ≠ [] := fun x => by rw [x] at hml; exact h0 (List.length_eq_zero_iff.1 hml.symm)
  have hbl := base_count [] k o e c t
  have hmt := more_text ns 0
  have hms := msL_len (moreL 0 ns) hm
  rw [← msL_app _ _ hm]
  have hnd : ((baseM [] k o e c t ++ moreL 0 ns).map Mem.nm).Nodup := by
    rw [List.map_append, List.nodup_append]
    exact ⟨say_names [] k o e c t false hc ht, more_nodup ns 0 (by omega), fun a ha b hb' e => more_not ns (base_in ha) (e ▸ hb')⟩
  have hf : (objN (baseM [] k o e c t ++ moreL 0 ns) 0).length ≤ 256 := by
    have h1 := more_few ns 0 (1 + (nodesI 1 ((baseM [] k o e c t).map Mem.it)).1.length)
    have h2 := base_few k o e c t 1 hc ht
    simp only [objN, List.map_append, nodesI_app, List.length_cons, List.length_append, Nat.zero_add]
    omega
  refine ⟨_, objs_reads (by simp only [List.length_append, baseM, List.length_cons]; omega) (by simp only [List.length_append]; omega) (fun x hx => ?_) hnd ?_ hf, ?_⟩
  · rcases List.mem_append.1 hx with hx | hx
    · exact base_ok allB_nil hk ho he c t x hx
    · exact more_ok ns 0 (by omega) x hx
  · rw [List.length_cons, msL_len _ (by simp [baseM]), flat_app, List.length_append]; omega
  · refine cli_where (S := 1) (rest := []) hc ht hd (fun nm hnm => ?_) fun j hj => ?_
    · unfold getJ objN
      simp only [List.getD_cons_zero, List.map_append, nodesI_app, Nat.zero_add]
      rw [find_app2 (by rw [nodesI_ids, List.length_map, List.length_map]) (more_not ns hnm)]
    · unfold objN
      simp only [List.map_append, nodesI_app, Nat.zero_add]
      rw [show 1 + j = j + 1 by omega, List.getD_cons_succ, List.getD_eq_getElem?_getD, List.getElem?_append_left hj, ← List.getD_eq_getElem?_getD]
end
end Go.Proofs.YtfemncfhiihckaaDoor
