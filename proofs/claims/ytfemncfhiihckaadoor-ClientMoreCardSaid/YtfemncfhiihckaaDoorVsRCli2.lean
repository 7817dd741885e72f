/- client.Parse. -/
import Derived.Test.YtfemncfhiihckaaDoorVsRCli
open Go Go.VS
namespace Go.Proofs.YtfemncfhiihckaaDoor
set_option linter.unusedVariables false
set_option linter.unusedSimpArgs false
set_option maxRecDepth 20000
set_option maxHeartbeats 4000000
def k27_VsRCli2 : List Nat := [0,2,3,4,5,6,7,8,9,10,11,12,13,14,15,16,17,18,19,20,22,29,56,69,76,90,105,120,135,140]
attribute [go_sem] k27_VsRCli2
theorem f27_ok (b : List UInt8) (nb : Bool) : CallsP Tryd.prog 27 [.sl none nb 1 (b.map u8)] (.tup [.agg (cliS (parseS b).1 (parseS b).2).1.cells, .int .i64 ((cliS (parseS b).1 (parseS b).2).2 : Int)]) := by
  have c17 := f17_ok b nb
  have hmany := parse_many b
  have hno := parse_nodes b
  generalize parseS b = P at *
  obtain ⟨l, e⟩ := P
  simp only at c17 hmany hno ⊢
  obtain ⟨R, hR⟩ : ∃ R, cliS l e = R := ⟨_, rfl⟩
  rw [hR]
  unfold cliS at hR
  by_cases he : e = 0
  · subst he
    rw [if_neg (by simp)] at hR
    obtain ⟨h1, hm⟩ := hno rfl
    have hl : l.length ≤ 100000 := by omega
    have ck : CallsP Tryd.prog 37 [.sl none l.isEmpty 4 (l.map JN.av), .int .i64 0, .str [116, 121, 112, 101]] _ := f37_ok l.isEmpty l 0 tyB (by omega) hl hm
    have cd : CallsP Tryd.prog 37 [.sl none l.isEmpty 4 (l.map JN.av), .int .i64 0, .str [99, 104, 97, 108, 108, 101, 110, 103, 101]] _ := f37_ok l.isEmpty l 0 chB (by omega) hl hm
    have co : CallsP Tryd.prog 37 [.sl none l.isEmpty 4 (l.map JN.av), .int .i64 0, .str [111, 114, 105, 103, 105, 110]] _ := f37_ok l.isEmpty l 0 ogB (by omega) hl hm
    have cc := f20_jn l.isEmpty l 0 crB (by omega) hl hm
    obtain ⟨K, hK0⟩ : ∃ K, textJ l 0 tyB = K := ⟨_, rfl⟩
    obtain ⟨D, hD0⟩ : ∃ D, textJ l 0 chB = D := ⟨_, rfl⟩
    obtain ⟨O, hO0⟩ : ∃ O, textJ l 0 ogB = O := ⟨_, rfl⟩
    rw [hK0] at ck hR
    rw [hD0] at cd hR
    rw [hO0] at co hR
    have bad : (K.isSome && D.isSome && O.isSome) = false → CallsP Tryd.prog 27 [.sl none nb 1 (b.map u8)] (.tup [.agg CL.zero.cells, .int .i64 61]) := by
      intro hb
      refine CallsP.introF Tryd.func27 rfl (by show 1 ≤ 147; decide) ?_
      rintro X hX
      have hn : X.n = 147 := hX
      unfold Tryd.f27
      dsimp only
      rw [entryB_0, entry1]
      cases K with
      | none =>
        repeat' first
         | with_reducible refine Rl.go (by constructor <;> decide) ?_
         | ((with_reducible first | refine hK _ ?_ | refine hK.1 ?_ | refine hK.2 ?_); clear hK K)
         | ((with_reducible refine condS hK (fun hg => ?_) fun hg => ?_) <;> clear hK K <;> (try simp only [hgW] at hg) <;> try (exfalso; omega))
         | ((first | ((with_reducible first | refine Rk.go k27_VsRCli2 (by constructor) ?_); intro K hK) | with_reducible refine Rr.go [] (by constructor) ?_ | (with_reducible refine guardP_split (fun hg => ?_) fun hg => ?_) <;> (try simp only [hg]) <;> (try simp only [hgW] at hg) | refine Rc.go c17 (by constructor) ?_ | refine Rc.go ck (by constructor) ?_ | refine Rc.go cd (by constructor) ?_ | refine Rc.go co (by constructor) ?_) <;> simp -implicitDefEqProofs only [CL.cells, CL.zero, Option.isSome_none, Option.getD_none, hn, go_sem, simprocAttr] <;> try (simp (disch := omega) only [wrW]; try simp -implicitDefEqProofs only [CL.cells, CL.zero, Option.isSome_none, Option.getD_none, hn, go_sem, simprocAttr]))
         | with_reducible refine And.intro (by first | omega | (simp only [hgW]; omega)) ?_
         | (exfalso; omega)
      | some k =>
        cases D with
        | none =>
          repeat' first
           | with_reducible refine Rl.go (by constructor <;> decide) ?_
           | ((with_reducible first | refine hK _ ?_ | refine hK.1 ?_ | refine hK.2 ?_); clear hK K)
           | ((with_reducible refine condS hK (fun hg => ?_) fun hg => ?_) <;> clear hK K <;> (try simp only [hgW] at hg) <;> try (exfalso; omega))
           | ((first | ((with_reducible first | refine Rk.go k27_VsRCli2 (by constructor) ?_); intro K hK) | with_reducible refine Rr.go [] (by constructor) ?_ | (with_reducible refine guardP_split (fun hg => ?_) fun hg => ?_) <;> (try simp only [hg]) <;> (try simp only [hgW] at hg) | refine Rc.go c17 (by constructor) ?_ | refine Rc.go ck (by constructor) ?_ | refine Rc.go cd (by constructor) ?_ | refine Rc.go co (by constructor) ?_) <;> simp -implicitDefEqProofs only [CL.cells, CL.zero, Option.isSome_none, Option.getD_none, Option.isSome_some, Option.getD_some, hn, go_sem, simprocAttr] <;> try (simp (disch := omega) only [wrW]; try simp -implicitDefEqProofs only [CL.cells, CL.zero, Option.isSome_none, Option.getD_none, Option.isSome_some, Option.getD_some, hn, go_sem, simprocAttr]))
           | with_reducible refine And.intro (by first | omega | (simp only [hgW]; omega)) ?_
           | (exfalso; omega)
        | some d =>
          cases O with
          | none =>
            repeat' first
             | with_reducible refine Rl.go (by constructor <;> decide) ?_
             | ((with_reducible first | refine hK _ ?_ | refine hK.1 ?_ | refine hK.2 ?_); clear hK K)
             | ((with_reducible refine condS hK (fun hg => ?_) fun hg => ?_) <;> clear hK K <;> (try simp only [hgW] at hg) <;> try (exfalso; omega))
             | ((first | ((with_reducible first | refine Rk.go k27_VsRCli2 (by constructor) ?_); intro K hK) | with_reducible refine Rr.go [] (by constructor) ?_ | (with_reducible refine guardP_split (fun hg => ?_) fun hg => ?_) <;> (try simp only [hg]) <;> (try simp only [hgW] at hg) | refine Rc.go c17 (by constructor) ?_ | refine Rc.go ck (by constructor) ?_ | refine Rc.go cd (by constructor) ?_ | refine Rc.go co (by constructor) ?_) <;> simp -implicitDefEqProofs only [CL.cells, CL.zero, Option.isSome_none, Option.getD_none, Option.isSome_some, Option.getD_some, hn, go_sem, simprocAttr] <;> try (simp (disch := omega) only [wrW]; try simp -implicitDefEqProofs only [CL.cells, CL.zero, Option.isSome_none, Option.getD_none, Option.isSome_some, Option.getD_some, hn, go_sem, simprocAttr]))
             | with_reducible refine And.intro (by first | omega | (simp only [hgW]; omega)) ?_
             | (exfalso; omega)
          | some o => cases hb
    cases K with
    | none => subst hR; exact bad rfl
    | some k =>
      cases D with
      | none => subst hR; exact bad rfl
      | some d =>
        cases O with
        | none => subst hR; exact bad rfl
        | some o =>
          clear bad
          simp only at hR
          have c38 := f38_ok d
          by_cases hd : (decS d).2 = 0
          · rw [if_neg (by simpa using hd)] at hR
            rw [hd] at c38
            generalize (decS d).1 = ch at *
            unfold crossS at hR
            have tail := fun (c : CL) (hb : c.bound = false) X hX => tail27 X hX l l.isEmpty c hb hl h1 hm
            cases hg : getJ l 0 crB with
            | none =>
              rw [hg] at hR cc
              simp only at hR
              subst hR
              have cc' : CallsP Tryd.prog 20 [.sl none l.isEmpty 4 (l.map JN.av), .int .i64 0, .str [99, 114, 111, 115, 115, 79, 114, 105, 103, 105, 110]] (.tup [.int .i64 0, .bool false]) := cc
              refine CallsP.introF Tryd.func27 rfl (by show 1 ≤ 147; decide) ?_
              rintro X hX
              have hn : X.n = 147 := hX
              unfold Tryd.f27
              dsimp only
              rw [entryB_0, entry1]
              repeat' first
               | (with_reducible refine markDQ 19 ?_)
               | with_reducible refine Rl.go (by constructor <;> decide) ?_
               | ((with_reducible first | refine hK _ ?_ | refine hK.1 ?_ | refine hK.2 ?_); clear hK K)
               | ((with_reducible refine condS hK (fun hg => ?_) fun hg => ?_) <;> clear hK K <;> (try simp only [hgW] at hg) <;> try (exfalso; omega))
               | ((first | ((with_reducible first | refine Rk.go k27_VsRCli2 (by constructor) ?_); intro K hK) | with_reducible refine Rr.go [] (by constructor) ?_ | (with_reducible refine guardP_split (fun hg => ?_) fun hg => ?_) <;> (try simp only [hg]) <;> (try simp only [hgW] at hg) | refine Rc.go c17 (by constructor) ?_ | refine Rc.go ck (by constructor) ?_ | refine Rc.go cd (by constructor) ?_ | refine Rc.go co (by constructor) ?_ | refine Rc.go c38 (by constructor) ?_ | refine Rc.go (cc') (by constructor) ?_) <;> simp -implicitDefEqProofs only [CL.cells, CL.zero, Option.isSome_some, Option.getD_some, hn, go_sem, simprocAttr] <;> try (simp (disch := omega) only [wrW]; try simp -implicitDefEqProofs only [CL.cells, CL.zero, Option.isSome_some, Option.getD_some, hn, go_sem, simprocAttr]))
               | with_reducible refine And.intro (by first | omega | (simp only [hgW]; omega)) ?_
               | (exfalso; omega)
              unfold MarkD
              refine AWP.slim [2, 3, 4, 6] [] ?_
              simp -implicitDefEqProofs only [hn, go_sem, simprocAttr]
              exact tail ⟨k, o, ch, false, false, []⟩ rfl X hX
            | some j =>
              have hj := getJ_lt hm (by omega) hg
              rw [hg] at hR cc
              simp only at hR
              have cc' : CallsP Tryd.prog 20 [.sl none l.isEmpty 4 (l.map JN.av), .int .i64 0, .str [99, 114, 111, 115, 115, 79, 114, 105, 103, 105, 110]] (.tup [.int .i64 (j : Int), .bool true]) := cc
              obtain ⟨n, hnn⟩ : ∃ n, l.getD j default = n := ⟨_, rfl⟩
              rw [hnn] at hR
              obtain ⟨nk, nt, nn, ns⟩ := n
              simp only at hR
              by_cases h5 : nk = 5
              · subst h5
                rw [if_pos rfl] at hR
                subst hR
                refine CallsP.introF Tryd.func27 rfl (by show 1 ≤ 147; decide) ?_
                rintro X hX
                have hn : X.n = 147 := hX
                unfold Tryd.f27
                dsimp only
                rw [entryB_0, entry1]
                repeat' first
                 | (with_reducible refine markDQ 19 ?_)
                 | with_reducible refine Rl.go (by constructor <;> decide) ?_
                 | ((with_reducible first | refine hK _ ?_ | refine hK.1 ?_ | refine hK.2 ?_); clear hK K)
                 | ((with_reducible refine condS hK (fun hg => ?_) fun hg => ?_) <;> clear hK K <;> (try simp only [hgW] at hg) <;> try (exfalso; omega))
                 | ((first | ((with_reducible first | refine Rk.go k27_VsRCli2 (by constructor) ?_); intro K hK) | with_reducible refine Rr.go [] (by constructor) ?_ | (with_reducible refine guardP_split (fun hg => ?_) fun hg => ?_) <;> (try simp only [hg]) <;> (try simp only [hgW] at hg) | refine Rc.go c17 (by constructor) ?_ | refine Rc.go ck (by constructor) ?_ | refine Rc.go cd (by constructor) ?_ | refine Rc.go co (by constructor) ?_ | refine Rc.go c38 (by constructor) ?_ | refine Rc.go (cc') (by constructor) ?_) <;> simp -implicitDefEqProofs only [CL.cells, CL.zero, Option.isSome_some, Option.getD_some, hnn, JN.av, hn, go_sem, simprocAttr] <;> try (simp (disch := omega) only [wrW]; try simp -implicitDefEqProofs only [CL.cells, CL.zero, Option.isSome_some, Option.getD_some, hnn, JN.av, hn, go_sem, simprocAttr]))
                 | with_reducible refine And.intro (by first | omega | (simp only [hgW]; omega)) ?_
                 | (exfalso; omega)
                unfold MarkD
                refine AWP.slim [2, 3, 4, 6] [] ?_
                simp -implicitDefEqProofs only [hn, go_sem, simprocAttr]
                exact tail ⟨k, o, ch, true, false, []⟩ rfl X hX
              rw [if_neg h5] at hR
              by_cases h6 : nk = 6
              · subst h6
                rw [if_pos rfl] at hR
                subst hR
                refine CallsP.introF Tryd.func27 rfl (by show 1 ≤ 147; decide) ?_
                rintro X hX
                have hn : X.n = 147 := hX
                unfold Tryd.f27
                dsimp only
                rw [entryB_0, entry1]
                repeat' first
                 | (with_reducible refine markDQ 19 ?_)
                 | with_reducible refine Rl.go (by constructor <;> decide) ?_
                 | ((with_reducible first | refine hK _ ?_ | refine hK.1 ?_ | refine hK.2 ?_); clear hK K)
                 | ((with_reducible refine condS hK (fun hg => ?_) fun hg => ?_) <;> clear hK K <;> (try simp only [hgW] at hg) <;> try (exfalso; omega))
                 | ((first | ((with_reducible first | refine Rk.go k27_VsRCli2 (by constructor) ?_); intro K hK) | with_reducible refine Rr.go [] (by constructor) ?_ | (with_reducible refine guardP_split (fun hg => ?_) fun hg => ?_) <;> (try simp only [hg]) <;> (try simp only [hgW] at hg) | refine Rc.go c17 (by constructor) ?_ | refine Rc.go ck (by constructor) ?_ | refine Rc.go cd (by constructor) ?_ | refine Rc.go co (by constructor) ?_ | refine Rc.go c38 (by constructor) ?_ | refine Rc.go (cc') (by constructor) ?_) <;> simp -implicitDefEqProofs only [CL.cells, CL.zero, Option.isSome_some, Option.getD_some, hnn, JN.av, hn, go_sem, simprocAttr] <;> try (simp (disch := omega) only [wrW]; try simp -implicitDefEqProofs only [CL.cells, CL.zero, Option.isSome_some, Option.getD_some, hnn, JN.av, hn, go_sem, simprocAttr]))
                 | with_reducible refine And.intro (by first | omega | (simp only [hgW]; omega)) ?_
                 | (exfalso; omega)
                unfold MarkD
                refine AWP.slim [2, 3, 4, 6] [] ?_
                simp -implicitDefEqProofs only [hn, go_sem, simprocAttr]
                exact tail ⟨k, o, ch, false, false, []⟩ rfl X hX
              · rw [if_neg h6] at hR
                subst hR
                refine CallsP.introF Tryd.func27 rfl (by show 1 ≤ 147; decide) ?_
                rintro X hX
                have hn : X.n = 147 := hX
                unfold Tryd.f27
                dsimp only
                rw [entryB_0, entry1]
                repeat' first
                 | (with_reducible refine markDQ 19 ?_)
                 | with_reducible refine Rl.go (by constructor <;> decide) ?_
                 | ((with_reducible first | refine hK _ ?_ | refine hK.1 ?_ | refine hK.2 ?_); clear hK K)
                 | ((with_reducible refine condS hK (fun hg => ?_) fun hg => ?_) <;> clear hK K <;> (try simp only [hgW] at hg) <;> try (exfalso; omega))
                 | ((first | ((with_reducible first | refine Rk.go k27_VsRCli2 (by constructor) ?_); intro K hK) | with_reducible refine Rr.go [] (by constructor) ?_ | (with_reducible refine guardP_split (fun hg => ?_) fun hg => ?_) <;> (try simp only [hg]) <;> (try simp only [hgW] at hg) | refine Rc.go c17 (by constructor) ?_ | refine Rc.go ck (by constructor) ?_ | refine Rc.go cd (by constructor) ?_ | refine Rc.go co (by constructor) ?_ | refine Rc.go c38 (by constructor) ?_ | refine Rc.go (cc') (by constructor) ?_) <;> simp -implicitDefEqProofs only [CL.cells, CL.zero, Option.isSome_some, Option.getD_some, hnn, JN.av, hn, go_sem, simprocAttr] <;> try (simp (disch := omega) only [wrW]; try simp -implicitDefEqProofs only [CL.cells, CL.zero, Option.isSome_some, Option.getD_some, hnn, JN.av, hn, go_sem, simprocAttr]))
                 | with_reducible refine And.intro (by first | omega | (simp only [hgW]; omega)) ?_
                 | (exfalso; omega)
          · rw [if_pos hd] at hR
            subst hR
            refine CallsP.introF Tryd.func27 rfl (by show 1 ≤ 147; decide) ?_
            rintro X hX
            have hn : X.n = 147 := hX
            unfold Tryd.f27
            dsimp only
            rw [entryB_0, entry1]
            repeat' first
             | with_reducible refine Rl.go (by constructor <;> decide) ?_
             | ((with_reducible first | refine hK _ ?_ | refine hK.1 ?_ | refine hK.2 ?_); clear hK K)
             | ((with_reducible refine condS hK (fun hg => ?_) fun hg => ?_) <;> clear hK K <;> (try simp only [hgW] at hg) <;> try (exfalso; omega))
             | ((first | ((with_reducible first | refine Rk.go k27_VsRCli2 (by constructor) ?_); intro K hK) | with_reducible refine Rr.go [] (by constructor) ?_ | (with_reducible refine guardP_split (fun hg => ?_) fun hg => ?_) <;> (try simp only [hg]) <;> (try simp only [hgW] at hg) | refine Rc.go c17 (by constructor) ?_ | refine Rc.go ck (by constructor) ?_ | refine Rc.go cd (by constructor) ?_ | refine Rc.go co (by constructor) ?_ | refine Rc.go c38 (by constructor) ?_) <;> simp -implicitDefEqProofs only [CL.cells, CL.zero, Option.isSome_some, Option.getD_some, hn, go_sem, simprocAttr] <;> try (simp (disch := omega) only [wrW]; try simp -implicitDefEqProofs only [CL.cells, CL.zero, Option.isSome_some, Option.getD_some, hn, go_sem, simprocAttr]))
             | with_reducible refine And.intro (by first | omega | (simp only [hgW]; omega)) ?_
             | (exfalso; omega)
  · rw [if_pos he] at hR
    subst hR
    refine CallsP.introF Tryd.func27 rfl (by show 1 ≤ 147; decide) ?_
    rintro X hX
    have hn : X.n = 147 := hX
    unfold Tryd.f27
    dsimp only
    rw [entryB_0, entry1]
    repeat' first
     | with_reducible refine Rl.go (by constructor <;> decide) ?_
     | ((with_reducible first | refine hK _ ?_ | refine hK.1 ?_ | refine hK.2 ?_); clear hK K)
     | ((with_reducible refine condS hK (fun hg => ?_) fun hg => ?_) <;> clear hK K <;> (try simp only [hgW] at hg) <;> try (exfalso; omega))
     | ((first | ((with_reducible first | refine Rk.go k27_VsRCli2 (by constructor) ?_); intro K hK) | with_reducible refine Rr.go [] (by constructor) ?_ | (with_reducible refine guardP_split (fun hg => ?_) fun hg => ?_) <;> (try simp only [hg]) <;> (try simp only [hgW] at hg) | refine Rc.go c17 (by constructor) ?_) <;> simp -implicitDefEqProofs only [CL.cells, CL.zero, hn, go_sem, simprocAttr] <;> try (simp (disch := omega) only [wrW]; try simp -implicitDefEqProofs only [CL.cells, CL.zero, hn, go_sem, simprocAttr]))
     | with_reducible refine And.intro (by first | omega | (simp only [hgW]; omega)) ?_
     | (exfalso; omega)
end Go.Proofs.YtfemncfhiihckaaDoor
