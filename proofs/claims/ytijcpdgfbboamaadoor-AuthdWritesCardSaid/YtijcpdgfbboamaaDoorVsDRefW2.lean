/- What the document's Bytes comes to. -/
import Derived.Test.YtijcpdgfbboamaaDoorVsDWrite2
import Derived.Test.YtijcpdgfbboamaaDoorVsDTexts
import Derived.Test.YtijcpdgfbboamaaDoorVsCRWE
open Go Go.VS
namespace Go.Proofs.YtijcpdgfbboamaaDoor
set_option linter.unusedVariables false
set_option linter.unusedSimpArgs false
set_option maxRecDepth 20000
set_option maxHeartbeats 4000000
theorem AWP.join {P : Program} {X : Ent} {x y : Code} {Q : Exit → St → Prop} {st : St} (ks ds : List Nat) (S : St) (h : AWP P X x (thenS (fun s => VS.slim ks ds s = S) Q) st) (h2 : AWP P X y Q S) : AWP P X (.seq x y) Q st :=
  AWP.seq (AWP.mono h fun e s he => by
    cases e with
    | normal => exact AWP.slim ks ds (by rw [show VS.slim ks ds s = S from he]; exact h2)
    | _ => exact he)
theorem kb_av2 (n : Nat) (h : n < 4294967296) : [AV.int .u8 ((n : Int) / 16777216), .int .u8 ((n : Int) / 65536 % 256), .int .u8 ((n : Int) / 256 % 256), .int .u8 ((n : Int) % 256)] = (kb n).map u8 := by
  have e : ∀ m : Nat, (UInt8.ofNat m).toNat = m % 256 := fun m => by simp
  simp only [kb, List.map_cons, List.map_nil, u8, e]
  rw [show (n : Int) / 16777216 = ((n / 16777216 % 256 : Nat) : Int) by omega, show (n : Int) / 65536 % 256 = ((n / 65536 % 256 : Nat) : Int) by omega, show (n : Int) / 256 % 256 = ((n / 256 % 256 : Nat) : Int) by omega, show (n : Int) % 256 = ((n % 256 : Nat) : Int) by omega]
theorem lenB_av2 (n : Nat) (h : n ≤ 128) : [AV.int .u8 ((n : Int) / 256), .int .u8 ((n : Int) % 256)] = (lenB n).map u8 := by
  rw [← lenB_av n h, show (n : Int) % 256 = (n : Int) by omega]
def k31_VsDRefW : List Nat := [0,1,2,3,4,5,6,7,8,9,10,11,12,14,25,29,33,39,66,75,83,86,115,123,128]
attribute [go_sem] k31_VsDRefW
theorem tail31 (X : Ent) (hX : X.n = 133) {valid : List UInt8 → Bool} (hv : ValidI valid) (hs ms : List UInt8) (h1 : hs.length = 32) (h2 : ms.length = 16) (p v h : Bool) (cnt : Nat) (cn : Bool) (cred : List UInt8) (kk kn : Nat) (kbn kkn : Bool) (kb' : List UInt8) (kks : List CI)
    (xk xn : Nat) (xbn xkn : Bool) (xb : List UInt8) (xks : List CI) (hf : Fit 8 (.mk xk xn xbn xb xkn xks)) (hkl : xks.length ≤ 10000) (o : List UInt8) (ho : o.length ≤ 1000000) (ob : Bool) (hob : ob = false) :
    AWP Tryd.prog X (tlD (tlD (tlD (tlD (tlD (tlD (tlD (tlD (tlD (tlD ((Tryd.f31.body).getD .skip))))))))))) (retSF Tryd.prog Tryd.f31.results.toList 0 (outAV (extW valid ⟨hs, p, v, h, cnt, ms, cn, cred, .mk kk kn kbn kb' kkn kks, .mk xk xn xbn xb xkn xks⟩ o)) [])
      (St.mk (lk [(1, .ptr 1 0), (2, .sl none true 1 []), (3, .int .i64 0), (4, .sl (some ((0, 999), 0)) ob 1 (o.map u8))]) (lkB [(1, hs.map u8 ++ .bool p :: .bool v :: .bool h :: .int .u32 (cnt : Int) :: (ms.map u8 ++ [.sl none cn 1 (cred.map u8), .int .u8 (kk : Int), .int .u64 (kn : Int), .sl none kbn 1 (kb'.map u8), .sl none kkn 4 (kks.map CI.av), .int .u8 (xk : Int), .int .u64 (xn : Int), .sl none xbn 1 (xb.map u8), .sl none xkn 4 (xks.map CI.av)]))]) (hasS []) (hasS []) (hasN []) (lkR [])) := by
  subst hob
  have hn : X.n = 133 := hX
  have hl2 : (hs.map u8).length = 32 := by rw [List.length_map]; exact h1
  have ml2 : (ms.map u8).length = 16 := by rw [List.length_map]; exact h2
  have ht1 := ap_take hl2
  have hd1 := ap_drop hl2
  have hg1 := ap_get hl2
  have ht2 := ap_take ml2
  have hd2 := ap_drop ml2
  have hg2 := ap_get ml2
  have ha1 : ∀ l, List.take 32 (hs.map u8 ++ l) = hs.map u8 := fun l => by have := ht1 l 0; simpa using this
  have ha2 : ∀ l, List.take 16 (ms.map u8 ++ l) = ms.map u8 := fun l => by have := ht2 l 0; simpa using this
  have c19 := f19_ok hv _ hf
  have c42 := f42_ok (.mk xk xn xbn xb xkn xks) hkl
  obtain ⟨R, hR⟩ : ∃ R, extW valid ⟨hs, p, v, h, cnt, ms, cn, cred, .mk kk kn kbn kb' kkn kks, .mk xk xn xbn xb xkn xks⟩ o = R := ⟨_, rfl⟩
  rw [hR]
  have eW : extW valid ⟨hs, p, v, h, cnt, ms, cn, cred, .mk kk kn kbn kb' kkn kks, .mk xk xn xbn xb xkn xks⟩ o = if xk = 6 then
      (if (encS valid (.mk xk xn xbn xb xkn xks)).2 ≠ 0 then ([], (encS valid (.mk xk xn xbn xb xkn xks)).2) else if keysFrom xks 0 = false then ([], 60) else (o ++ (encS valid (.mk xk xn xbn xb xkn xks)).1, 0)) else (o, 0) := rfl
  rw [eW] at hR
  clear eW
  show AWP Tryd.prog X (tlD (tlD (tlD (tlD (tlD (tlD (tlD (tlD (tlD (tlD ((Tryd.f31.body).getD .skip))))))))))) (retSF Tryd.prog Tryd.f31.results.toList 0 (outAV R) []) _
  unfold Tryd.f31
  dsimp only [tlD, Option.getD_some]
  by_cases hk : xk = 6
  · subst hk
    rw [if_pos rfl] at hR
    have hts : textsS (.mk 6 xn xbn xb xkn xks) = keysFrom xks 0 := by simp [textsS, CI.k, CI.ks]
    rw [hts] at c42
    have hlen := enc_len2 valid (.mk 6 xn xbn xb xkn xks)
    have hnil := enc_nil valid (.mk 6 xn xbn xb xkn xks)
    obtain ⟨E, hE⟩ : ∃ E, encS valid (.mk 6 xn xbn xb xkn xks) = E := ⟨_, rfl⟩
    rw [hE] at hR c19 hlen hnil
    obtain ⟨a, e⟩ := E
    simp only at hR c19 hlen hnil
    by_cases he : e = 0
    · subst he
      rw [if_neg (by simp)] at hR
      have hae := hnil.2 rfl
      simp only [av_mk', bytesAV, hae] at c19
      simp only [av_mk'] at c42
      by_cases hkt : keysFrom xks 0 = false
      · rw [if_pos hkt] at hR
        rw [hkt] at c42
        subst hR
        repeat' first
         | with_reducible refine Rl.go (by constructor <;> decide) ?_
         | ((with_reducible first | refine hK _ ?_ | refine hK.1 ?_ | refine hK.2 ?_); clear hK K)
         | ((with_reducible refine condS hK (fun hg => ?_) fun hg => ?_) <;> clear hK K <;> (try simp only [hgW] at hg) <;> try (exfalso; omega))
         | ((first | ((with_reducible first | refine Rk.go k31_VsDRefW (by constructor) ?_); intro K hK) | with_reducible refine Rr.go [] (by constructor) ?_ | (with_reducible refine guardP_split (fun hg => ?_) fun hg => ?_) <;> (try simp only [hg]) <;> (try simp only [hgW] at hg) | refine Rc.go c19 (by constructor) ?_ | refine Rc.go c42 (by constructor) ?_) <;> simp -implicitDefEqProofs only [outAV, AD.av, AD.cells, cs_mk, all_one, List.append_assoc, h1, h2, hl2, ml2, ha1, ha2, ht1, hd1, hg1, ht2, hd2, hg2, Int.cast_ofNat_Int, hn, go_sem, simprocAttr] <;> try (simp (disch := omega) only [wrW]; try simp -implicitDefEqProofs only [outAV, AD.av, AD.cells, cs_mk, all_one, List.append_assoc, h1, h2, hl2, ml2, ha1, ha2, ht1, hd1, hg1, ht2, hd2, hg2, Int.cast_ofNat_Int, hn, go_sem, simprocAttr]))
         | with_reducible refine And.intro (by first | omega | (simp only [hgW]; omega)) ?_
         | (exfalso; omega)
      · rw [if_neg hkt] at hR
        have hkt : keysFrom xks 0 = true := by simpa using hkt
        rw [hkt] at c42
        subst hR
        repeat' first
         | with_reducible refine Rl.go (by constructor <;> decide) ?_
         | ((with_reducible first | refine hK _ ?_ | refine hK.1 ?_ | refine hK.2 ?_); clear hK K)
         | ((with_reducible refine condS hK (fun hg => ?_) fun hg => ?_) <;> clear hK K <;> (try simp only [hgW] at hg) <;> try (exfalso; omega))
         | ((first | ((with_reducible first | refine Rk.go k31_VsDRefW (by constructor) ?_); intro K hK) | with_reducible refine Rr.go [] (by constructor) ?_ | (with_reducible refine guardP_split (fun hg => ?_) fun hg => ?_) <;> (try simp only [hg]) <;> (try simp only [hgW] at hg) | refine Rc.go c19 (by constructor) ?_ | refine Rc.go c42 (by constructor) ?_) <;> simp -implicitDefEqProofs only [outAV, List.map_append, AD.av, AD.cells, cs_mk, all_one, List.append_assoc, h1, h2, hl2, ml2, ha1, ha2, ht1, hd1, hg1, ht2, hd2, hg2, Int.cast_ofNat_Int, hn, go_sem, simprocAttr] <;> try (simp (disch := omega) only [wrW]; try simp -implicitDefEqProofs only [outAV, List.map_append, AD.av, AD.cells, cs_mk, all_one, List.append_assoc, h1, h2, hl2, ml2, ha1, ha2, ht1, hd1, hg1, ht2, hd2, hg2, Int.cast_ofNat_Int, hn, go_sem, simprocAttr]))
         | with_reducible refine And.intro (by first | omega | (simp only [hgW]; omega)) ?_
         | (exfalso; omega)
    · rw [if_pos he] at hR
      subst hR
      have hae := hnil.1 he
      subst hae
      simp only [av_mk', bytesAV, List.isEmpty_nil, List.map_nil] at c19
      repeat' first
       | with_reducible refine Rl.go (by constructor <;> decide) ?_
       | ((with_reducible first | refine hK _ ?_ | refine hK.1 ?_ | refine hK.2 ?_); clear hK K)
       | ((with_reducible refine condS hK (fun hg => ?_) fun hg => ?_) <;> clear hK K <;> (try simp only [hgW] at hg) <;> try (exfalso; omega))
       | ((first | ((with_reducible first | refine Rk.go k31_VsDRefW (by constructor) ?_); intro K hK) | with_reducible refine Rr.go [] (by constructor) ?_ | (with_reducible refine guardP_split (fun hg => ?_) fun hg => ?_) <;> (try simp only [hg]) <;> (try simp only [hgW] at hg) | refine Rc.go c19 (by constructor) ?_) <;> simp -implicitDefEqProofs only [outAV, he, AD.av, AD.cells, cs_mk, all_one, List.append_assoc, h1, h2, hl2, ml2, ha1, ha2, ht1, hd1, hg1, ht2, hd2, hg2, Int.cast_ofNat_Int, hn, go_sem, simprocAttr] <;> try (simp (disch := omega) only [wrW]; try simp -implicitDefEqProofs only [outAV, he, AD.av, AD.cells, cs_mk, all_one, List.append_assoc, h1, h2, hl2, ml2, ha1, ha2, ht1, hd1, hg1, ht2, hd2, hg2, Int.cast_ofNat_Int, hn, go_sem, simprocAttr]))
       | with_reducible refine And.intro (by first | omega | (simp only [hgW]; omega)) ?_
       | (exfalso; omega)
  · have hk2 : ¬ (xk : Int) = 6 := by omega
    rw [if_neg hk] at hR
    subst hR
    repeat' first
     | with_reducible refine Rl.go (by constructor <;> decide) ?_
     | ((with_reducible first | refine hK _ ?_ | refine hK.1 ?_ | refine hK.2 ?_); clear hK K)
     | ((with_reducible refine condS hK (fun hg => ?_) fun hg => ?_) <;> clear hK K <;> (try simp only [hgW] at hg) <;> try (exfalso; omega))
     | ((first | ((with_reducible first | refine Rk.go k31_VsDRefW (by constructor) ?_); intro K hK) | with_reducible refine Rr.go [] (by constructor) ?_ | (with_reducible refine guardP_split (fun hg => ?_) fun hg => ?_) <;> (try simp only [hg]) <;> (try simp only [hgW] at hg)) <;> simp -implicitDefEqProofs only [outAV, hk2, AD.av, AD.cells, cs_mk, all_one, List.append_assoc, h1, h2, hl2, ml2, ha1, ha2, ht1, hd1, hg1, ht2, hd2, hg2, Int.cast_ofNat_Int, hn, go_sem, simprocAttr] <;> try (simp (disch := omega) only [wrW]; try simp -implicitDefEqProofs only [outAV, hk2, AD.av, AD.cells, cs_mk, all_one, List.append_assoc, h1, h2, hl2, ml2, ha1, ha2, ht1, hd1, hg1, ht2, hd2, hg2, Int.cast_ofNat_Int, hn, go_sem, simprocAttr]))
     | with_reducible refine And.intro (by first | omega | (simp only [hgW]; omega)) ?_
     | (exfalso; omega)
end Go.Proofs.YtijcpdgfbboamaaDoor
open Go Go.VS
namespace Go.Proofs.YtijcpdgfbboamaaDoor
set_option linter.unusedVariables false
set_option linter.unusedSimpArgs false
set_option maxRecDepth 20000
set_option maxHeartbeats 4000000
def k31_VsDRefW2 : List Nat := [0,1,2,3,4,5,6,7,8,9,10,11,12,14,25,29,33,39,66,75,83,86,115,123,128]
attribute [go_sem] k31_VsDRefW2
theorem f31_ok {valid : List UInt8 → Bool} (hv : ValidI valid) (d : AD) (hd : d.Wr) (hkl : d.exts.ks.length ≤ 10000) : CallsP Tryd.prog 31 [d.av] (outAV (writeS valid d)) := by
  obtain ⟨h1, h2, h3, h4, h5, h6, h7⟩ := hd
  obtain ⟨hs, p, v, h, cnt, ms, cn, cred, key, exts⟩ := d
  simp only at h1 h2 h3 h4 h5 h6 h7 hkl
  have c19 := f19_ok hv key h6
  have klen := enc_len2 valid key
  have knil := enc_nil valid key
  obtain ⟨kk, kn, kbn, kb', kkn, kks⟩ := key
  obtain ⟨xk, xn, xbn, xb, xkn, xks⟩ := exts
  have hl2 : (hs.map u8).length = 32 := by rw [List.length_map]; exact h1
  have ml2 : (ms.map u8).length = 16 := by rw [List.length_map]; exact h2
  have ht1 := ap_take hl2
  have hd1 := ap_drop hl2
  have hg1 := ap_get hl2
  have ht2 := ap_take ml2
  have hd2 := ap_drop ml2
  have hg2 := ap_get ml2
  have ha1 : ∀ l, List.take 32 (hs.map u8 ++ l) = hs.map u8 := fun l => by have := ht1 l 0; simpa using this
  have ha2 : ∀ l, List.take 16 (ms.map u8 ++ l) = ms.map u8 := fun l => by have := ht2 l 0; simpa using this
  have hx : decide ((xk : Int) = 6) = decide (xk = 6) := decide_eq_decide.2 (by omega)
  obtain ⟨x, hxx⟩ : ∃ x, decide (xk = 6) = x := ⟨_, rfl⟩
  have eW : writeS valid ⟨hs, p, v, h, cnt, ms, cn, cred, .mk kk kn kbn kb' kkn kks, .mk xk xn xbn xb xkn xks⟩ = if h = true then
      (if cred.length < 1 ∨ 128 < cred.length then ([], 60) else if (encS valid (.mk kk kn kbn kb' kkn kks)).2 ≠ 0 then ([], (encS valid (.mk kk kn kbn kb' kkn kks)).2)
        else extW valid ⟨hs, p, v, h, cnt, ms, cn, cred, .mk kk kn kbn kb' kkn kks, .mk xk xn xbn xb xkn xks⟩ (hs ++ UInt8.ofNat (accF p v h x 4) :: kb cnt ++ ms ++ lenB cred.length ++ cred ++ (encS valid (.mk kk kn kbn kb' kkn kks)).1))
      else extW valid ⟨hs, p, v, h, cnt, ms, cn, cred, .mk kk kn kbn kb' kkn kks, .mk xk xn xbn xb xkn xks⟩ (hs ++ UInt8.ofNat (accF p v h x 4) :: kb cnt) := by
    unfold writeS headD
    rw [← hxx]
    rfl
  obtain ⟨R, hR⟩ : ∃ R, writeS valid ⟨hs, p, v, h, cnt, ms, cn, cred, .mk kk kn kbn kb' kkn kks, .mk xk xn xbn xb xkn xks⟩ = R := ⟨_, rfl⟩
  rw [hR]
  rw [eW] at hR
  clear eW
  rw [hxx] at hx
  have T := fun (X : Ent) (hX : X.n = 133) => tail31 X hX hv hs ms h1 h2 p v h cnt cn cred kk kn kbn kkn kb' kks xk xn xbn xkn xb xks h7 hkl
  refine CallsP.introF Tryd.func31 rfl (by show 1 ≤ 133; decide) ?_
  rintro X hX
  have hn : X.n = 133 := hX
  unfold Tryd.f31
  dsimp only
  rw [entryB_0, entry1]
  repeat' first
   | with_reducible refine Rl.go (by constructor <;> decide) ?_
   | ((with_reducible first | refine hK _ ?_ | refine hK.1 ?_ | refine hK.2 ?_); clear hK K)
   | ((with_reducible refine condS hK (fun hg => ?_) fun hg => ?_) <;> clear hK K <;> (try simp only [hgW] at hg) <;> try (exfalso; omega))
   | ((first | ((with_reducible first | refine Rk.go k31_VsDRefW2 (by constructor) ?_); intro K hK) | with_reducible refine Rr.go [] (by constructor) ?_ | (with_reducible refine guardP_split (fun hg => ?_) fun hg => ?_) <;> (try simp only [hg]) <;> (try simp only [hgW] at hg)) <;> simp -implicitDefEqProofs only [hx, AD.av, AD.cells, cs_mk, all_one, List.append_assoc, h1, h2, hl2, ml2, ha1, ha2, ht1, hd1, hg1, ht2, hd2, hg2, Int.cast_ofNat_Int, hn, go_sem, simprocAttr] <;> try (simp (disch := omega) only [wrW]; try simp -implicitDefEqProofs only [hx, AD.av, AD.cells, cs_mk, all_one, List.append_assoc, h1, h2, hl2, ml2, ha1, ha2, ht1, hd1, hg1, ht2, hd2, hg2, Int.cast_ofNat_Int, hn, go_sem, simprocAttr]))
   | with_reducible refine And.intro (by first | omega | (simp only [hgW]; omega)) ?_
   | (exfalso; omega)
  refine AWP.adopt 4 (0, 999) 0 1 (by rfl) ?_
  refine AWP.loopX [1, 2, 3, 4, 5] [] (fun i : Nat => St.mk (lk [(1, .ptr 1 0), (2, .sl none true 1 []), (3, .int .i64 0), (4, .sl (some ((0, 999), 0)) (decide (i = 0)) 1 ((hs.take i).map u8)), (5, .int .i64 (i : Int))])
      (lkB [(1, hs.map u8 ++ .bool p :: .bool v :: .bool h :: .int .u32 (cnt : Int) :: (ms.map u8 ++ [.sl none cn 1 (cred.map u8), .int .u8 (kk : Int), .int .u64 (kn : Int), .sl none kbn 1 (kb'.map u8), .sl none kkn 4 (kks.map CI.av), .int .u8 (xk : Int), .int .u64 (xn : Int), .sl none xbn 1 (xb.map u8), .sl none xkn 4 (xks.map CI.av)]))]) (hasS []) (hasS []) (hasN []) (lkR []))
    (fun i => i ≤ 32) (fun i => 32 - i) 0 ?_ (by decide) ?_
  · simp -implicitDefEqProofs only [Int.cast_ofNat_Int, hn, go_sem, simprocAttr]
    try rfl
  rintro i g1
  by_cases hi : i = 32
  · subst hi
    have hta : hs.take 32 = hs := List.take_of_length_le (by omega)
    rw [hta]
    have a1 := accF_lt p v h x
    obtain ⟨fl, hfl⟩ : ∃ fl, UInt8.ofNat (accF p v h x 4) = fl := ⟨_, rfl⟩
    have hacc : ((accF p v h x 4 : Nat) : Int) = (fl.toNat : Int) := by
      rw [← hfl]
      simp
      omega
    rw [hfl] at hR
    have hq0 : (0 : Int) = ((accF p v h x 0 : Nat) : Int) := rfl
    repeat' first
     | (with_reducible refine markD 7 ?_)
     | with_reducible refine Rl.go (by constructor <;> decide) ?_
     | ((with_reducible first | refine hK _ ?_ | refine hK.1 ?_ | refine hK.2 ?_); clear hK K)
     | ((with_reducible refine condS hK (fun hg => ?_) fun hg => ?_) <;> clear hK K <;> (try simp only [hgW] at hg) <;> try (exfalso; omega))
     | ((first | ((with_reducible first | refine Rk.go k31_VsDRefW2 (by constructor) ?_); intro K hK) | with_reducible refine Rr.go [] (by constructor) ?_ | (with_reducible refine guardP_split (fun hg => ?_) fun hg => ?_) <;> (try simp only [hg]) <;> (try simp only [hgW] at hg)) <;> simp -implicitDefEqProofs only [AD.av, AD.cells, cs_mk, all_one, List.append_assoc, h1, h2, hl2, ml2, ha1, ha2, ht1, hd1, hg1, ht2, hd2, hg2, Int.cast_ofNat_Int, hn, go_sem, simprocAttr] <;> try (simp (disch := omega) only [wrW]; try simp -implicitDefEqProofs only [AD.av, AD.cells, cs_mk, all_one, List.append_assoc, h1, h2, hl2, ml2, ha1, ha2, ht1, hd1, hg1, ht2, hd2, hg2, Int.cast_ofNat_Int, hn, go_sem, simprocAttr]))
     | with_reducible refine And.intro (by first | omega | (simp only [hgW]; omega)) ?_
     | (exfalso; omega)
    unfold MarkD
    refine AWP.join [1, 2, 3, 4, 6] [] (St.mk (lk [(1, .ptr 1 0), (2, .sl none true 1 []), (3, .int .i64 0), (4, .sl (some ((0, 999), 0)) false 1 (hs.map u8)), (6, .int .i64 ((accF p v h x 1 : Nat) : Int))]) (lkB [(1, hs.map u8 ++ .bool p :: .bool v :: .bool h :: .int .u32 (cnt : Int) :: (ms.map u8 ++ [.sl none cn 1 (cred.map u8), .int .u8 (kk : Int), .int .u64 (kn : Int), .sl none kbn 1 (kb'.map u8), .sl none kkn 4 (kks.map CI.av), .int .u8 (xk : Int), .int .u64 (xn : Int), .sl none xbn 1 (xb.map u8), .sl none xkn 4 (xks.map CI.av)]))]) (hasS []) (hasS []) (hasN []) (lkR [])) ?_ ?_
    · cases p
      · have hq : accF false v h x 0 = accF false v h x 1 := by simp [accF]
        repeat' first
         | with_reducible refine Rl.go (by constructor <;> decide) ?_
         | ((with_reducible first | refine hK _ ?_ | refine hK.1 ?_ | refine hK.2 ?_); clear hK K)
         | ((with_reducible refine condS hK (fun hg => ?_) fun hg => ?_) <;> clear hK K <;> (try simp only [hgW] at hg) <;> try (exfalso; omega))
         | ((first | ((with_reducible first | refine Rk.go k31_VsDRefW2 (by constructor) ?_); intro K hK) | with_reducible refine Rr.go [] (by constructor) ?_ | (with_reducible refine guardP_split (fun hg => ?_) fun hg => ?_) <;> (try simp only [hg]) <;> (try simp only [hgW] at hg)) <;> simp -implicitDefEqProofs only [hq, AD.av, AD.cells, cs_mk, all_one, List.append_assoc, h1, h2, hl2, ml2, ha1, ha2, ht1, hd1, hg1, ht2, hd2, hg2, Int.cast_ofNat_Int, hn, go_sem, simprocAttr] <;> try (simp (disch := omega) only [wrW]; try simp -implicitDefEqProofs only [hq, AD.av, AD.cells, cs_mk, all_one, List.append_assoc, h1, h2, hl2, ml2, ha1, ha2, ht1, hd1, hg1, ht2, hd2, hg2, Int.cast_ofNat_Int, hn, go_sem, simprocAttr]))
         | with_reducible refine And.intro (by first | omega | (simp only [hgW]; omega)) ?_
         | (exfalso; omega)
        simp -implicitDefEqProofs only [hq, Int.cast_ofNat_Int, hn, go_sem, simprocAttr]
        try rfl
      · have hq : ((accF true v h x 0 : Nat) : Int) + 1 = ((accF true v h x 1 : Nat) : Int) := by simp [accF]
        have hq2 : accF true v h x 0 < 256 := by simp [accF]
        have hq3 : accF true v h x 1 < 256 := by simp [accF]
        repeat' first
         | with_reducible refine Rl.go (by constructor <;> decide) ?_
         | ((with_reducible first | refine hK _ ?_ | refine hK.1 ?_ | refine hK.2 ?_); clear hK K)
         | ((with_reducible refine condS hK (fun hg => ?_) fun hg => ?_) <;> clear hK K <;> (try simp only [hgW] at hg) <;> try (exfalso; omega))
         | ((first | ((with_reducible first | refine Rk.go k31_VsDRefW2 (by constructor) ?_); intro K hK) | with_reducible refine Rr.go [] (by constructor) ?_ | (with_reducible refine guardP_split (fun hg => ?_) fun hg => ?_) <;> (try simp only [hg]) <;> (try simp only [hgW] at hg)) <;> simp -implicitDefEqProofs only [hq, AD.av, AD.cells, cs_mk, all_one, List.append_assoc, h1, h2, hl2, ml2, ha1, ha2, ht1, hd1, hg1, ht2, hd2, hg2, Int.cast_ofNat_Int, hn, go_sem, simprocAttr] <;> try (simp (disch := omega) only [wrW]; try simp -implicitDefEqProofs only [hq, AD.av, AD.cells, cs_mk, all_one, List.append_assoc, h1, h2, hl2, ml2, ha1, ha2, ht1, hd1, hg1, ht2, hd2, hg2, Int.cast_ofNat_Int, hn, go_sem, simprocAttr]))
         | with_reducible refine And.intro (by first | omega | (simp only [hgW]; omega)) ?_
         | (exfalso; omega)
        simp -implicitDefEqProofs only [hq, Int.cast_ofNat_Int, hn, go_sem, simprocAttr]
        try rfl
    repeat' first
     | (with_reducible refine markD 9 ?_)
     | with_reducible refine Rl.go (by constructor <;> decide) ?_
     | ((with_reducible first | refine hK _ ?_ | refine hK.1 ?_ | refine hK.2 ?_); clear hK K)
     | ((with_reducible refine condS hK (fun hg => ?_) fun hg => ?_) <;> clear hK K <;> (try simp only [hgW] at hg) <;> try (exfalso; omega))
     | ((first | ((with_reducible first | refine Rk.go k31_VsDRefW2 (by constructor) ?_); intro K hK) | with_reducible refine Rr.go [] (by constructor) ?_ | (with_reducible refine guardP_split (fun hg => ?_) fun hg => ?_) <;> (try simp only [hg]) <;> (try simp only [hgW] at hg)) <;> simp -implicitDefEqProofs only [AD.av, AD.cells, cs_mk, all_one, List.append_assoc, h1, h2, hl2, ml2, ha1, ha2, ht1, hd1, hg1, ht2, hd2, hg2, Int.cast_ofNat_Int, hn, go_sem, simprocAttr] <;> try (simp (disch := omega) only [wrW]; try simp -implicitDefEqProofs only [AD.av, AD.cells, cs_mk, all_one, List.append_assoc, h1, h2, hl2, ml2, ha1, ha2, ht1, hd1, hg1, ht2, hd2, hg2, Int.cast_ofNat_Int, hn, go_sem, simprocAttr]))
     | with_reducible refine And.intro (by first | omega | (simp only [hgW]; omega)) ?_
     | (exfalso; omega)
    unfold MarkD
    refine AWP.join [1, 2, 3, 4, 6] [] (St.mk (lk [(1, .ptr 1 0), (2, .sl none true 1 []), (3, .int .i64 0), (4, .sl (some ((0, 999), 0)) false 1 (hs.map u8)), (6, .int .i64 ((accF p v h x 2 : Nat) : Int))]) (lkB [(1, hs.map u8 ++ .bool p :: .bool v :: .bool h :: .int .u32 (cnt : Int) :: (ms.map u8 ++ [.sl none cn 1 (cred.map u8), .int .u8 (kk : Int), .int .u64 (kn : Int), .sl none kbn 1 (kb'.map u8), .sl none kkn 4 (kks.map CI.av), .int .u8 (xk : Int), .int .u64 (xn : Int), .sl none xbn 1 (xb.map u8), .sl none xkn 4 (xks.map CI.av)]))]) (hasS []) (hasS []) (hasN []) (lkR [])) ?_ ?_
    · cases v
      · have hq : accF p false h x 1 = accF p false h x 2 := by simp [accF]
        repeat' first
         | with_reducible refine Rl.go (by constructor <;> decide) ?_
         | ((with_reducible first | refine hK _ ?_ | refine hK.1 ?_ | refine hK.2 ?_); clear hK K)
         | ((with_reducible refine condS hK (fun hg => ?_) fun hg => ?_) <;> clear hK K <;> (try simp only [hgW] at hg) <;> try (exfalso; omega))
         | ((first | ((with_reducible first | refine Rk.go k31_VsDRefW2 (by constructor) ?_); intro K hK) | with_reducible refine Rr.go [] (by constructor) ?_ | (with_reducible refine guardP_split (fun hg => ?_) fun hg => ?_) <;> (try simp only [hg]) <;> (try simp only [hgW] at hg)) <;> simp -implicitDefEqProofs only [hq, AD.av, AD.cells, cs_mk, all_one, List.append_assoc, h1, h2, hl2, ml2, ha1, ha2, ht1, hd1, hg1, ht2, hd2, hg2, Int.cast_ofNat_Int, hn, go_sem, simprocAttr] <;> try (simp (disch := omega) only [wrW]; try simp -implicitDefEqProofs only [hq, AD.av, AD.cells, cs_mk, all_one, List.append_assoc, h1, h2, hl2, ml2, ha1, ha2, ht1, hd1, hg1, ht2, hd2, hg2, Int.cast_ofNat_Int, hn, go_sem, simprocAttr]))
         | with_reducible refine And.intro (by first | omega | (simp only [hgW]; omega)) ?_
         | (exfalso; omega)
        simp -implicitDefEqProofs only [hq, Int.cast_ofNat_Int, hn, go_sem, simprocAttr]
        try rfl
      · have hq : ((accF p true h x 1 : Nat) : Int) + 4 = ((accF p true h x 2 : Nat) : Int) := by simp [accF]
        have hq2 : accF p true h x 1 < 256 := by simp [accF]; cases p <;> decide
        have hq3 : accF p true h x 2 < 256 := by simp [accF]; cases p <;> decide
        repeat' first
         | with_reducible refine Rl.go (by constructor <;> decide) ?_
         | ((with_reducible first | refine hK _ ?_ | refine hK.1 ?_ | refine hK.2 ?_); clear hK K)
         | ((with_reducible refine condS hK (fun hg => ?_) fun hg => ?_) <;> clear hK K <;> (try simp only [hgW] at hg) <;> try (exfalso; omega))
         | ((first | ((with_reducible first | refine Rk.go k31_VsDRefW2 (by constructor) ?_); intro K hK) | with_reducible refine Rr.go [] (by constructor) ?_ | (with_reducible refine guardP_split (fun hg => ?_) fun hg => ?_) <;> (try simp only [hg]) <;> (try simp only [hgW] at hg)) <;> simp -implicitDefEqProofs only [hq, AD.av, AD.cells, cs_mk, all_one, List.append_assoc, h1, h2, hl2, ml2, ha1, ha2, ht1, hd1, hg1, ht2, hd2, hg2, Int.cast_ofNat_Int, hn, go_sem, simprocAttr] <;> try (simp (disch := omega) only [wrW]; try simp -implicitDefEqProofs only [hq, AD.av, AD.cells, cs_mk, all_one, List.append_assoc, h1, h2, hl2, ml2, ha1, ha2, ht1, hd1, hg1, ht2, hd2, hg2, Int.cast_ofNat_Int, hn, go_sem, simprocAttr]))
         | with_reducible refine And.intro (by first | omega | (simp only [hgW]; omega)) ?_
         | (exfalso; omega)
        simp -implicitDefEqProofs only [hq, Int.cast_ofNat_Int, hn, go_sem, simprocAttr]
        try rfl
    repeat' first
     | (with_reducible refine markD 11 ?_)
     | with_reducible refine Rl.go (by constructor <;> decide) ?_
     | ((with_reducible first | refine hK _ ?_ | refine hK.1 ?_ | refine hK.2 ?_); clear hK K)
     | ((with_reducible refine condS hK (fun hg => ?_) fun hg => ?_) <;> clear hK K <;> (try simp only [hgW] at hg) <;> try (exfalso; omega))
     | ((first | ((with_reducible first | refine Rk.go k31_VsDRefW2 (by constructor) ?_); intro K hK) | with_reducible refine Rr.go [] (by constructor) ?_ | (with_reducible refine guardP_split (fun hg => ?_) fun hg => ?_) <;> (try simp only [hg]) <;> (try simp only [hgW] at hg)) <;> simp -implicitDefEqProofs only [AD.av, AD.cells, cs_mk, all_one, List.append_assoc, h1, h2, hl2, ml2, ha1, ha2, ht1, hd1, hg1, ht2, hd2, hg2, Int.cast_ofNat_Int, hn, go_sem, simprocAttr] <;> try (simp (disch := omega) only [wrW]; try simp -implicitDefEqProofs only [AD.av, AD.cells, cs_mk, all_one, List.append_assoc, h1, h2, hl2, ml2, ha1, ha2, ht1, hd1, hg1, ht2, hd2, hg2, Int.cast_ofNat_Int, hn, go_sem, simprocAttr]))
     | with_reducible refine And.intro (by first | omega | (simp only [hgW]; omega)) ?_
     | (exfalso; omega)
    unfold MarkD
    refine AWP.join [1, 2, 3, 4, 6] [] (St.mk (lk [(1, .ptr 1 0), (2, .sl none true 1 []), (3, .int .i64 0), (4, .sl (some ((0, 999), 0)) false 1 (hs.map u8)), (6, .int .i64 ((accF p v h x 3 : Nat) : Int))]) (lkB [(1, hs.map u8 ++ .bool p :: .bool v :: .bool h :: .int .u32 (cnt : Int) :: (ms.map u8 ++ [.sl none cn 1 (cred.map u8), .int .u8 (kk : Int), .int .u64 (kn : Int), .sl none kbn 1 (kb'.map u8), .sl none kkn 4 (kks.map CI.av), .int .u8 (xk : Int), .int .u64 (xn : Int), .sl none xbn 1 (xb.map u8), .sl none xkn 4 (xks.map CI.av)]))]) (hasS []) (hasS []) (hasN []) (lkR [])) ?_ ?_
    · cases h
      · have hq : accF p v false x 2 = accF p v false x 3 := by simp [accF]
        repeat' first
         | with_reducible refine Rl.go (by constructor <;> decide) ?_
         | ((with_reducible first | refine hK _ ?_ | refine hK.1 ?_ | refine hK.2 ?_); clear hK K)
         | ((with_reducible refine condS hK (fun hg => ?_) fun hg => ?_) <;> clear hK K <;> (try simp only [hgW] at hg) <;> try (exfalso; omega))
         | ((first | ((with_reducible first | refine Rk.go k31_VsDRefW2 (by constructor) ?_); intro K hK) | with_reducible refine Rr.go [] (by constructor) ?_ | (with_reducible refine guardP_split (fun hg => ?_) fun hg => ?_) <;> (try simp only [hg]) <;> (try simp only [hgW] at hg)) <;> simp -implicitDefEqProofs only [hq, AD.av, AD.cells, cs_mk, all_one, List.append_assoc, h1, h2, hl2, ml2, ha1, ha2, ht1, hd1, hg1, ht2, hd2, hg2, Int.cast_ofNat_Int, hn, go_sem, simprocAttr] <;> try (simp (disch := omega) only [wrW]; try simp -implicitDefEqProofs only [hq, AD.av, AD.cells, cs_mk, all_one, List.append_assoc, h1, h2, hl2, ml2, ha1, ha2, ht1, hd1, hg1, ht2, hd2, hg2, Int.cast_ofNat_Int, hn, go_sem, simprocAttr]))
         | with_reducible refine And.intro (by first | omega | (simp only [hgW]; omega)) ?_
         | (exfalso; omega)
        simp -implicitDefEqProofs only [hq, Int.cast_ofNat_Int, hn, go_sem, simprocAttr]
        try rfl
      · have hq : ((accF p v true x 2 : Nat) : Int) + 64 = ((accF p v true x 3 : Nat) : Int) := by simp [accF]
        have hq2 : accF p v true x 2 < 256 := by simp [accF]; cases p <;> cases v <;> decide
        have hq3 : accF p v true x 3 < 256 := by simp [accF]; cases p <;> cases v <;> decide
        repeat' first
         | with_reducible refine Rl.go (by constructor <;> decide) ?_
         | ((with_reducible first | refine hK _ ?_ | refine hK.1 ?_ | refine hK.2 ?_); clear hK K)
         | ((with_reducible refine condS hK (fun hg => ?_) fun hg => ?_) <;> clear hK K <;> (try simp only [hgW] at hg) <;> try (exfalso; omega))
         | ((first | ((with_reducible first | refine Rk.go k31_VsDRefW2 (by constructor) ?_); intro K hK) | with_reducible refine Rr.go [] (by constructor) ?_ | (with_reducible refine guardP_split (fun hg => ?_) fun hg => ?_) <;> (try simp only [hg]) <;> (try simp only [hgW] at hg)) <;> simp -implicitDefEqProofs only [hq, AD.av, AD.cells, cs_mk, all_one, List.append_assoc, h1, h2, hl2, ml2, ha1, ha2, ht1, hd1, hg1, ht2, hd2, hg2, Int.cast_ofNat_Int, hn, go_sem, simprocAttr] <;> try (simp (disch := omega) only [wrW]; try simp -implicitDefEqProofs only [hq, AD.av, AD.cells, cs_mk, all_one, List.append_assoc, h1, h2, hl2, ml2, ha1, ha2, ht1, hd1, hg1, ht2, hd2, hg2, Int.cast_ofNat_Int, hn, go_sem, simprocAttr]))
         | with_reducible refine And.intro (by first | omega | (simp only [hgW]; omega)) ?_
         | (exfalso; omega)
        simp -implicitDefEqProofs only [hq, Int.cast_ofNat_Int, hn, go_sem, simprocAttr]
        try rfl
    repeat' first
     | (with_reducible refine markD 13 ?_)
     | with_reducible refine Rl.go (by constructor <;> decide) ?_
     | ((with_reducible first | refine hK _ ?_ | refine hK.1 ?_ | refine hK.2 ?_); clear hK K)
     | ((with_reducible refine condS hK (fun hg => ?_) fun hg => ?_) <;> clear hK K <;> (try simp only [hgW] at hg) <;> try (exfalso; omega))
     | ((first | ((with_reducible first | refine Rk.go k31_VsDRefW2 (by constructor) ?_); intro K hK) | with_reducible refine Rr.go [] (by constructor) ?_ | (with_reducible refine guardP_split (fun hg => ?_) fun hg => ?_) <;> (try simp only [hg]) <;> (try simp only [hgW] at hg)) <;> simp -implicitDefEqProofs only [AD.av, AD.cells, cs_mk, all_one, List.append_assoc, h1, h2, hl2, ml2, ha1, ha2, ht1, hd1, hg1, ht2, hd2, hg2, Int.cast_ofNat_Int, hn, go_sem, simprocAttr] <;> try (simp (disch := omega) only [wrW]; try simp -implicitDefEqProofs only [AD.av, AD.cells, cs_mk, all_one, List.append_assoc, h1, h2, hl2, ml2, ha1, ha2, ht1, hd1, hg1, ht2, hd2, hg2, Int.cast_ofNat_Int, hn, go_sem, simprocAttr]))
     | with_reducible refine And.intro (by first | omega | (simp only [hgW]; omega)) ?_
     | (exfalso; omega)
    unfold MarkD
    refine AWP.join [1, 2, 3, 4, 6] [] (St.mk (lk [(1, .ptr 1 0), (2, .sl none true 1 []), (3, .int .i64 0), (4, .sl (some ((0, 999), 0)) false 1 (hs.map u8)), (6, .int .i64 ((accF p v h x 4 : Nat) : Int))]) (lkB [(1, hs.map u8 ++ .bool p :: .bool v :: .bool h :: .int .u32 (cnt : Int) :: (ms.map u8 ++ [.sl none cn 1 (cred.map u8), .int .u8 (kk : Int), .int .u64 (kn : Int), .sl none kbn 1 (kb'.map u8), .sl none kkn 4 (kks.map CI.av), .int .u8 (xk : Int), .int .u64 (xn : Int), .sl none xbn 1 (xb.map u8), .sl none xkn 4 (xks.map CI.av)]))]) (hasS []) (hasS []) (hasN []) (lkR [])) ?_ ?_
    · cases x
      · have hq : accF p v h false 3 = accF p v h false 4 := by simp [accF]
        repeat' first
         | with_reducible refine Rl.go (by constructor <;> decide) ?_
         | ((with_reducible first | refine hK _ ?_ | refine hK.1 ?_ | refine hK.2 ?_); clear hK K)
         | ((with_reducible refine condS hK (fun hg => ?_) fun hg => ?_) <;> clear hK K <;> (try simp only [hgW] at hg) <;> try (exfalso; omega))
         | ((first | ((with_reducible first | refine Rk.go k31_VsDRefW2 (by constructor) ?_); intro K hK) | with_reducible refine Rr.go [] (by constructor) ?_ | (with_reducible refine guardP_split (fun hg => ?_) fun hg => ?_) <;> (try simp only [hg]) <;> (try simp only [hgW] at hg)) <;> simp -implicitDefEqProofs only [hx, hq, AD.av, AD.cells, cs_mk, all_one, List.append_assoc, h1, h2, hl2, ml2, ha1, ha2, ht1, hd1, hg1, ht2, hd2, hg2, Int.cast_ofNat_Int, hn, go_sem, simprocAttr] <;> try (simp (disch := omega) only [wrW]; try simp -implicitDefEqProofs only [hx, hq, AD.av, AD.cells, cs_mk, all_one, List.append_assoc, h1, h2, hl2, ml2, ha1, ha2, ht1, hd1, hg1, ht2, hd2, hg2, Int.cast_ofNat_Int, hn, go_sem, simprocAttr]))
         | with_reducible refine And.intro (by first | omega | (simp only [hgW]; omega)) ?_
         | (exfalso; omega)
        simp -implicitDefEqProofs only [hq, Int.cast_ofNat_Int, hn, go_sem, simprocAttr]
        try rfl
      · have hq : ((accF p v h true 3 : Nat) : Int) + 128 = ((accF p v h true 4 : Nat) : Int) := by simp [accF]
        have hq2 : accF p v h true 3 < 256 := by simp [accF]; cases p <;> cases v <;> cases h <;> decide
        have hq3 : accF p v h true 4 < 256 := by simp [accF]; cases p <;> cases v <;> cases h <;> decide
        repeat' first
         | with_reducible refine Rl.go (by constructor <;> decide) ?_
         | ((with_reducible first | refine hK _ ?_ | refine hK.1 ?_ | refine hK.2 ?_); clear hK K)
         | ((with_reducible refine condS hK (fun hg => ?_) fun hg => ?_) <;> clear hK K <;> (try simp only [hgW] at hg) <;> try (exfalso; omega))
         | ((first | ((with_reducible first | refine Rk.go k31_VsDRefW2 (by constructor) ?_); intro K hK) | with_reducible refine Rr.go [] (by constructor) ?_ | (with_reducible refine guardP_split (fun hg => ?_) fun hg => ?_) <;> (try simp only [hg]) <;> (try simp only [hgW] at hg)) <;> simp -implicitDefEqProofs only [hx, hq, AD.av, AD.cells, cs_mk, all_one, List.append_assoc, h1, h2, hl2, ml2, ha1, ha2, ht1, hd1, hg1, ht2, hd2, hg2, Int.cast_ofNat_Int, hn, go_sem, simprocAttr] <;> try (simp (disch := omega) only [wrW]; try simp -implicitDefEqProofs only [hx, hq, AD.av, AD.cells, cs_mk, all_one, List.append_assoc, h1, h2, hl2, ml2, ha1, ha2, ht1, hd1, hg1, ht2, hd2, hg2, Int.cast_ofNat_Int, hn, go_sem, simprocAttr]))
         | with_reducible refine And.intro (by first | omega | (simp only [hgW]; omega)) ?_
         | (exfalso; omega)
        simp -implicitDefEqProofs only [hq, Int.cast_ofNat_Int, hn, go_sem, simprocAttr]
        try rfl
    have hka := kb_av2 cnt h3
    rw [hacc]
    cases h with
    | false =>
      rw [if_neg (by decide)] at hR
      repeat' first
       | (with_reducible refine markD 30 ?_)
       | with_reducible refine Rl.go (by constructor <;> decide) ?_
       | ((with_reducible first | refine hK _ ?_ | refine hK.1 ?_ | refine hK.2 ?_); clear hK K)
       | ((with_reducible refine condS hK (fun hg => ?_) fun hg => ?_) <;> clear hK K <;> (try simp only [hgW] at hg) <;> try (exfalso; omega))
       | ((first | ((with_reducible first | refine Rk.go k31_VsDRefW2 (by constructor) ?_); intro K hK) | with_reducible refine Rr.go [] (by constructor) ?_ | (with_reducible refine guardP_split (fun hg => ?_) fun hg => ?_) <;> (try simp only [hg]) <;> (try simp only [hgW] at hg)) <;> simp -implicitDefEqProofs only [AD.av, AD.cells, cs_mk, all_one, List.append_assoc, h1, h2, hl2, ml2, ha1, ha2, ht1, hd1, hg1, ht2, hd2, hg2, Int.cast_ofNat_Int, hn, go_sem, simprocAttr] <;> try (simp (disch := omega) only [wrW]; try simp -implicitDefEqProofs only [AD.av, AD.cells, cs_mk, all_one, List.append_assoc, h1, h2, hl2, ml2, ha1, ha2, ht1, hd1, hg1, ht2, hd2, hg2, Int.cast_ofNat_Int, hn, go_sem, simprocAttr]))
       | with_reducible refine And.intro (by first | omega | (simp only [hgW]; omega)) ?_
       | (exfalso; omega)
      unfold MarkD
      refine AWP.slim [1, 2, 3, 4] [] ?_
      simp -implicitDefEqProofs only [Int.cast_ofNat_Int, hn, go_sem, simprocAttr]
      have T := T X hX (hs ++ fl :: kb cnt) (by simp [h1, kb]) false rfl
      rw [List.map_append, List.map_cons, ← hka] at T
      rw [← hR]
      exact T
    | true =>
      rw [if_pos rfl] at hR
      by_cases hn2 : cred.length < 1 ∨ 128 < cred.length
      · rw [if_pos hn2] at hR
        subst hR
        repeat' first
         | with_reducible refine Rl.go (by constructor <;> decide) ?_
         | ((with_reducible first | refine hK _ ?_ | refine hK.1 ?_ | refine hK.2 ?_); clear hK K)
         | ((with_reducible refine condS hK (fun hg => ?_) fun hg => ?_) <;> clear hK K <;> (try simp only [hgW] at hg) <;> try (exfalso; omega))
         | ((first | ((with_reducible first | refine Rk.go k31_VsDRefW2 (by constructor) ?_); intro K hK) | with_reducible refine Rr.go [] (by constructor) ?_ | (with_reducible refine guardP_split (fun hg => ?_) fun hg => ?_) <;> (try simp only [hg]) <;> (try simp only [hgW] at hg)) <;> simp -implicitDefEqProofs only [outAV, AD.av, AD.cells, cs_mk, all_one, List.append_assoc, h1, h2, hl2, ml2, ha1, ha2, ht1, hd1, hg1, ht2, hd2, hg2, Int.cast_ofNat_Int, hn, go_sem, simprocAttr] <;> try (simp (disch := omega) only [wrW]; try simp -implicitDefEqProofs only [outAV, AD.av, AD.cells, cs_mk, all_one, List.append_assoc, h1, h2, hl2, ml2, ha1, ha2, ht1, hd1, hg1, ht2, hd2, hg2, Int.cast_ofNat_Int, hn, go_sem, simprocAttr]))
         | with_reducible refine And.intro (by first | omega | (simp only [hgW]; omega)) ?_
         | (exfalso; omega)
      rw [if_neg hn2] at hR
      obtain ⟨E, hE⟩ : ∃ E, encS valid (.mk kk kn kbn kb' kkn kks) = E := ⟨_, rfl⟩
      rw [hE] at hR c19 klen knil
      obtain ⟨a, e⟩ := E
      simp only at hR c19 klen knil
      by_cases he : e = 0
      · subst he
        rw [if_neg (by simp)] at hR
        have hae := knil.2 rfl
        simp only [av_mk', bytesAV, hae] at c19
        repeat' first
         | with_reducible refine Rl.go (by constructor <;> decide) ?_
         | ((with_reducible first | refine hK _ ?_ | refine hK.1 ?_ | refine hK.2 ?_); clear hK K)
         | ((with_reducible refine condS hK (fun hg => ?_) fun hg => ?_) <;> clear hK K <;> (try simp only [hgW] at hg) <;> try (exfalso; omega))
         | ((first | ((with_reducible first | refine Rk.go k31_VsDRefW2 (by constructor) ?_); intro K hK) | with_reducible refine Rr.go [] (by constructor) ?_ | (with_reducible refine guardP_split (fun hg => ?_) fun hg => ?_) <;> (try simp only [hg]) <;> (try simp only [hgW] at hg) | refine Rc.go c19 (by constructor) ?_) <;> simp -implicitDefEqProofs only [AD.av, AD.cells, cs_mk, all_one, List.append_assoc, h1, h2, hl2, ml2, ha1, ha2, ht1, hd1, hg1, ht2, hd2, hg2, Int.cast_ofNat_Int, hn, go_sem, simprocAttr] <;> try (simp (disch := omega) only [wrW]; try simp -implicitDefEqProofs only [AD.av, AD.cells, cs_mk, all_one, List.append_assoc, h1, h2, hl2, ml2, ha1, ha2, ht1, hd1, hg1, ht2, hd2, hg2, Int.cast_ofNat_Int, hn, go_sem, simprocAttr]))
         | with_reducible refine And.intro (by first | omega | (simp only [hgW]; omega)) ?_
         | (exfalso; omega)
        refine AWP.loopX [1, 2, 3, 4, 7, 8, 10] [] (fun i : Nat => St.mk (lk [(1, .ptr 1 0), (2, .sl none true 1 []), (3, .int .i64 0), (4, .sl (some ((0, 999), 0)) false 1 (hs.map u8 ++ .int .u8 (fl.toNat : Int) :: .int .u8 ((cnt : Int) / 16777216) :: .int .u8 ((cnt : Int) / 65536 % 256) :: .int .u8 ((cnt : Int) / 256 % 256) :: .int .u8 ((cnt : Int) % 256) ::  (ms.take i).map u8)), (7, .int .i64 (cred.length : Int)), (8, .sl none false 1 (a.map u8)), (10, .int .i64 (i : Int))])
            (lkB [(1, hs.map u8 ++ .bool p :: .bool v :: .bool true :: .int .u32 (cnt : Int) :: (ms.map u8 ++ [.sl none cn 1 (cred.map u8), .int .u8 (kk : Int), .int .u64 (kn : Int), .sl none kbn 1 (kb'.map u8), .sl none kkn 4 (kks.map CI.av), .int .u8 (xk : Int), .int .u64 (xn : Int), .sl none xbn 1 (xb.map u8), .sl none xkn 4 (xks.map CI.av)]))]) (hasS []) (hasS []) (hasN []) (lkR []))
          (fun i => i ≤ 16) (fun i => 16 - i) 0 ?_ (by decide) ?_
        · simp -implicitDefEqProofs only [Int.cast_ofNat_Int, hn, go_sem, simprocAttr]
          try rfl
        rintro i g1
        by_cases hi : i = 16
        · subst hi
          have htm : ms.take 16 = ms := List.take_of_length_le (by omega)
          rw [htm]
          repeat' first
           | (with_reducible refine markD 30 ?_)
           | with_reducible refine Rl.go (by constructor <;> decide) ?_
           | ((with_reducible first | refine hK _ ?_ | refine hK.1 ?_ | refine hK.2 ?_); clear hK K)
           | ((with_reducible refine condS hK (fun hg => ?_) fun hg => ?_) <;> clear hK K <;> (try simp only [hgW] at hg) <;> try (exfalso; omega))
           | ((first | ((with_reducible first | refine Rk.go k31_VsDRefW2 (by constructor) ?_); intro K hK) | with_reducible refine Rr.go [] (by constructor) ?_ | (with_reducible refine guardP_split (fun hg => ?_) fun hg => ?_) <;> (try simp only [hg]) <;> (try simp only [hgW] at hg)) <;> simp -implicitDefEqProofs only [AD.av, AD.cells, cs_mk, all_one, List.append_assoc, h1, h2, hl2, ml2, ha1, ha2, ht1, hd1, hg1, ht2, hd2, hg2, Int.cast_ofNat_Int, hn, go_sem, simprocAttr] <;> try (simp (disch := omega) only [wrW]; try simp -implicitDefEqProofs only [AD.av, AD.cells, cs_mk, all_one, List.append_assoc, h1, h2, hl2, ml2, ha1, ha2, ht1, hd1, hg1, ht2, hd2, hg2, Int.cast_ofNat_Int, hn, go_sem, simprocAttr]))
           | with_reducible refine And.intro (by first | omega | (simp only [hgW]; omega)) ?_
           | (exfalso; omega)
          unfold MarkD
          refine AWP.slim [1, 2, 3, 4] [] ?_
          simp -implicitDefEqProofs only [Int.cast_ofNat_Int, hn, go_sem, simprocAttr]
          have T := T X hX (hs ++ fl :: kb cnt ++ ms ++ lenB cred.length ++ cred ++ a) (by simp [h1, h2, kb, lenB]; omega) false rfl
          have ho : (hs ++ fl :: kb cnt ++ ms ++ lenB cred.length ++ cred ++ a).map u8 = hs.map u8 ++ .int .u8 (fl.toNat : Int) :: .int .u8 ((cnt : Int) / 16777216) :: .int .u8 ((cnt : Int) / 65536 % 256) :: .int .u8 ((cnt : Int) / 256 % 256) :: .int .u8 ((cnt : Int) % 256) ::  (ms.map u8 ++ .int .u8 ((cred.length : Int) / 256) :: .int .u8 ((cred.length : Int) % 256) :: (cred.map u8 ++ a.map u8)) := by
            simp only [List.map_append, List.map_cons, List.append_assoc, List.cons_append]
            rw [← hka, ← lenB_av2 _ (by omega)]
            rfl
          rw [ho] at T
          rw [← hR]
          exact T
        have hgi : ∀ L : List AV, (ms.map u8 ++ L)[i]? = some (.int .u8 ((ms.getD i default).toNat : Int)) := fun L => by
          rw [List.getElem?_append_left (by omega), List.getElem?_map, List.getElem?_eq_getElem (by omega), List.getD_eq_getElem?_getD, List.getElem?_eq_getElem (by omega)]
          rfl
        have hti : (ms.take i).length = i := by rw [List.length_take]; omega
        have hcm : 36 + i = i + 36 := by omega
        have hnx : (ms.take i).map u8 ++ [.int .u8 ((ms.getD i default).toNat : Int)] = (ms.take (i + 1)).map u8 := by
          rw [List.take_succ_eq_append_getElem (by omega), List.map_append, List.getD_eq_getElem?_getD, List.getElem?_eq_getElem (by omega)]
          rfl
        have e2 : (i : Int) + 1 = ((i + 1 : Nat) : Int) := by omega
        repeat' first
         | with_reducible refine Rl.go (by constructor <;> decide) ?_
         | ((with_reducible first | refine hK _ ?_ | refine hK.1 ?_ | refine hK.2 ?_); clear hK K)
         | ((with_reducible refine condS hK (fun hg => ?_) fun hg => ?_) <;> clear hK K <;> (try simp only [hgW] at hg) <;> try (exfalso; omega))
         | ((first | ((with_reducible first | refine Rk.go k31_VsDRefW2 (by constructor) ?_); intro K hK) | with_reducible refine Rr.go [] (by constructor) ?_ | (with_reducible refine guardP_split (fun hg => ?_) fun hg => ?_) <;> (try simp only [hg]) <;> (try simp only [hgW] at hg)) <;> simp -implicitDefEqProofs only [hgi, hti, hcm, hnx, AD.av, AD.cells, cs_mk, all_one, List.append_assoc, h1, h2, hl2, ml2, ha1, ha2, ht1, hd1, hg1, ht2, hd2, hg2, Int.cast_ofNat_Int, hn, go_sem, simprocAttr] <;> try (simp (disch := omega) only [wrW]; try simp -implicitDefEqProofs only [hgi, hti, hcm, hnx, AD.av, AD.cells, cs_mk, all_one, List.append_assoc, h1, h2, hl2, ml2, ha1, ha2, ht1, hd1, hg1, ht2, hd2, hg2, Int.cast_ofNat_Int, hn, go_sem, simprocAttr]))
         | with_reducible refine And.intro (by first | omega | (simp only [hgW]; omega)) ?_
         | (exfalso; omega)
        refine ⟨i + 1, ?_, by omega, by omega⟩
        rw [e2]
        simp -implicitDefEqProofs only [Int.cast_ofNat_Int, hn, go_sem, simprocAttr]
        try rfl
      · rw [if_pos he] at hR
        subst hR
        have hae := knil.1 he
        subst hae
        simp only [av_mk', bytesAV, List.isEmpty_nil, List.map_nil] at c19
        repeat' first
         | with_reducible refine Rl.go (by constructor <;> decide) ?_
         | ((with_reducible first | refine hK _ ?_ | refine hK.1 ?_ | refine hK.2 ?_); clear hK K)
         | ((with_reducible refine condS hK (fun hg => ?_) fun hg => ?_) <;> clear hK K <;> (try simp only [hgW] at hg) <;> try (exfalso; omega))
         | ((first | ((with_reducible first | refine Rk.go k31_VsDRefW2 (by constructor) ?_); intro K hK) | with_reducible refine Rr.go [] (by constructor) ?_ | (with_reducible refine guardP_split (fun hg => ?_) fun hg => ?_) <;> (try simp only [hg]) <;> (try simp only [hgW] at hg) | refine Rc.go c19 (by constructor) ?_) <;> simp -implicitDefEqProofs only [outAV, he, AD.av, AD.cells, cs_mk, all_one, List.append_assoc, h1, h2, hl2, ml2, ha1, ha2, ht1, hd1, hg1, ht2, hd2, hg2, Int.cast_ofNat_Int, hn, go_sem, simprocAttr] <;> try (simp (disch := omega) only [wrW]; try simp -implicitDefEqProofs only [outAV, he, AD.av, AD.cells, cs_mk, all_one, List.append_assoc, h1, h2, hl2, ml2, ha1, ha2, ht1, hd1, hg1, ht2, hd2, hg2, Int.cast_ofNat_Int, hn, go_sem, simprocAttr]))
         | with_reducible refine And.intro (by first | omega | (simp only [hgW]; omega)) ?_
         | (exfalso; omega)
  have hgi : ∀ L : List AV, (hs.map u8 ++ L)[i]? = some (.int .u8 ((hs.getD i default).toNat : Int)) := fun L => by
    rw [List.getElem?_append_left (by omega), List.getElem?_map, List.getElem?_eq_getElem (by omega), List.getD_eq_getElem?_getD, List.getElem?_eq_getElem (by omega)]
    rfl
  have hti : (hs.take i).length = i := by rw [List.length_take]; omega
  have hnx : (hs.take i).map u8 ++ [.int .u8 ((hs.getD i default).toNat : Int)] = (hs.take (i + 1)).map u8 := by
    rw [List.take_succ_eq_append_getElem (by omega), List.map_append, List.getD_eq_getElem?_getD, List.getElem?_eq_getElem (by omega)]
    rfl
  have e2 : (i : Int) + 1 = ((i + 1 : Nat) : Int) := by omega
  have hne : decide (i + 1 = 0) = false := by simp
  repeat' first
   | with_reducible refine Rl.go (by constructor <;> decide) ?_
   | ((with_reducible first | refine hK _ ?_ | refine hK.1 ?_ | refine hK.2 ?_); clear hK K)
   | ((with_reducible refine condS hK (fun hg => ?_) fun hg => ?_) <;> clear hK K <;> (try simp only [hgW] at hg) <;> try (exfalso; omega))
   | ((first | ((with_reducible first | refine Rk.go k31_VsDRefW2 (by constructor) ?_); intro K hK) | with_reducible refine Rr.go [] (by constructor) ?_ | (with_reducible refine guardP_split (fun hg => ?_) fun hg => ?_) <;> (try simp only [hg]) <;> (try simp only [hgW] at hg)) <;> simp -implicitDefEqProofs only [hgi, hti, hnx, AD.av, AD.cells, cs_mk, all_one, List.append_assoc, h1, h2, hl2, ml2, ha1, ha2, ht1, hd1, hg1, ht2, hd2, hg2, Int.cast_ofNat_Int, hn, go_sem, simprocAttr] <;> try (simp (disch := omega) only [wrW]; try simp -implicitDefEqProofs only [hgi, hti, hnx, AD.av, AD.cells, cs_mk, all_one, List.append_assoc, h1, h2, hl2, ml2, ha1, ha2, ht1, hd1, hg1, ht2, hd2, hg2, Int.cast_ofNat_Int, hn, go_sem, simprocAttr]))
   | with_reducible refine And.intro (by first | omega | (simp only [hgW]; omega)) ?_
   | (exfalso; omega)
  refine ⟨i + 1, ?_, by omega, by omega⟩
  rw [e2]
  simp -implicitDefEqProofs only [hne, Int.cast_ofNat_Int, hn, go_sem, simprocAttr]
  try rfl
end Go.Proofs.YtijcpdgfbboamaaDoor
