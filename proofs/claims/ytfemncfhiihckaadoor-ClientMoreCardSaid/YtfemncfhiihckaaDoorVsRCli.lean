/- client.Parse: what it comes to. -/
import Derived.Test.YtfemncfhiihckaaDoorVsRKid
import Derived.Test.YtfemncfhiihckaaDoorVsRDec2
open Go Go.VS
namespace Go.Proofs.YtfemncfhiihckaaDoor
set_option linter.unusedVariables false
set_option linter.unusedSimpArgs false
set_option maxRecDepth 20000
set_option maxHeartbeats 4000000
structure CL where
  ty : List UInt8
  og : List UInt8
  ch : List UInt8
  cross : Bool
  bound : Bool
  tok : List UInt8
def CL.zero : CL := ⟨[], [], [], false, false, []⟩
def CL.cells (c : CL) : List AV := [.str c.ty, .str c.og, .sl none c.ch.isEmpty 1 (c.ch.map u8), .bool c.cross, .bool c.bound, .str c.tok]
def tyB : List UInt8 := [116, 121, 112, 101]
def chB : List UInt8 := [99, 104, 97, 108, 108, 101, 110, 103, 101]
def ogB : List UInt8 := [111, 114, 105, 103, 105, 110]
def crB : List UInt8 := [99, 114, 111, 115, 115, 79, 114, 105, 103, 105, 110]
def tkB : List UInt8 := [116, 111, 107, 101, 110, 66, 105, 110, 100, 105, 110, 103]
def stB : List UInt8 := [115, 116, 97, 116, 117, 115]
def idB : List UInt8 := [105, 100]
def prB : List UInt8 := [112, 114, 101, 115, 101, 110, 116]
def suB : List UInt8 := [115, 117, 112, 112, 111, 114, 116, 101, 100]
/-- The token's part. -/
def tokS (l : List JN) (c : CL) : CL × Nat :=
  match getJ l 0 tkB with
  | none => (c, 0)
  | some j =>
    if textJ l j stB = some prB ∧ (textJ l j idB).isSome = true then
      (if (decS ((textJ l j idB).getD [])).2 = 0 then ({ c with bound := true, tok := (textJ l j idB).getD [] }, 0) else (CL.zero, 61))
    else if textJ l j stB = some suB then (c, 0)
    else (CL.zero, 61)
def crossS (l : List JN) (c : CL) : CL × Nat :=
  match getJ l 0 crB with
  | none => tokS l c
  | some j => if (l.getD j default).k = 5 then tokS l { c with cross := true } else if (l.getD j default).k = 6 then tokS l c else (CL.zero, 61)
def cliS (l : List JN) (e : Nat) : CL × Nat :=
  if e ≠ 0 then (CL.zero, e)
  else match textJ l 0 tyB, textJ l 0 chB, textJ l 0 ogB with
    | some k, some d, some o => if (decS d).2 ≠ 0 then (CL.zero, 61) else crossS l ⟨k, o, (decS d).1, false, false, []⟩
    | _, _, _ => (CL.zero, 61)
def tlR : Code → Code
  | .seq _ b => b
  | c => c
def k27_VsRCli : List Nat := [0,2,3,4,5,6,7,8,9,10,11,12,13,14,15,16,17,18,19,20,22,29,56,69,76,90,105,120,135,140]
attribute [go_sem] k27_VsRCli
theorem tail27 (X : Ent) (hX : X.n = 147) (l : List JN) (nb : Bool) (c : CL) (hb : c.bound = false) (hl : l.length ≤ 100000) (h1 : 1 ≤ l.length) (hm : ∀ n ∈ l, NodeOk l.length n) :
    AWP Tryd.prog X (tlR (tlR (tlR (tlR (tlR (tlR (tlR (tlR (tlR (tlR (tlR ((Tryd.f27.body).getD .skip)))))))))))) (retSF Tryd.prog Tryd.f27.results.toList 0 (.tup [.agg (tokS l c).1.cells, .int .i64 ((tokS l c).2 : Int)]) [])
      (St.mk (lk [(2, .ptr 2 0), (3, .int .i64 0), (4, .sl none nb 4 (l.map JN.av)), (6, .ptr 6 0)]) (lkB [(2, CL.zero.cells), (6, c.cells)]) (hasS []) (hasS []) (hasN []) (lkR [])) := by
  have hn : X.n = 147 := hX
  obtain ⟨c1, c2, c3, c4, c5, c6⟩ := c
  simp only at hb
  subst hb
  have c20 := f20_jn nb l 0 tkB (by omega) hl hm
  obtain ⟨R, hR⟩ : ∃ R, tokS l ⟨c1, c2, c3, c4, false, c6⟩ = R := ⟨_, rfl⟩
  rw [hR]
  unfold tokS at hR
  unfold Tryd.f27
  dsimp only [tlR, Option.getD_some]
  cases hg : getJ l 0 tkB with
  | none =>
    rw [hg] at hR c20
    simp only at hR
    subst hR
    have c20 : CallsP Tryd.prog 20 [.sl none nb 4 (l.map JN.av), .int .i64 0, .str [116, 111, 107, 101, 110, 66, 105, 110, 100, 105, 110, 103]] (.tup [.int .i64 0, .bool false]) := c20
    repeat' first
     | with_reducible refine Rl.go (by constructor <;> decide) ?_
     | ((with_reducible first | refine hK _ ?_ | refine hK.1 ?_ | refine hK.2 ?_); clear hK K)
     | ((with_reducible refine condS hK (fun hg => ?_) fun hg => ?_) <;> clear hK K <;> (try simp only [hgW] at hg) <;> try (exfalso; omega))
     | ((first | ((with_reducible first | refine Rk.go k27_VsRCli (by constructor) ?_); intro K hK) | with_reducible refine Rr.go [] (by constructor) ?_ | (with_reducible refine guardP_split (fun hg => ?_) fun hg => ?_) <;> (try simp only [hg]) <;> (try simp only [hgW] at hg) | refine Rc.go c20 (by constructor) ?_) <;> simp -implicitDefEqProofs only [CL.cells, CL.zero, hn, go_sem, simprocAttr] <;> try (simp (disch := omega) only [wrW]; try simp -implicitDefEqProofs only [CL.cells, CL.zero, hn, go_sem, simprocAttr]))
     | with_reducible refine And.intro (by first | omega | (simp only [hgW]; omega)) ?_
     | (exfalso; omega)
  | some j =>
    have hj := getJ_lt hm (by omega) hg
    rw [hg] at hR c20
    simp only at hR
    have c20 : CallsP Tryd.prog 20 [.sl none nb 4 (l.map JN.av), .int .i64 0, .str tkB] (.tup [.int .i64 (j : Int), .bool true]) := c20
    have cs := f37_ok nb l j stB hj hl hm
    have ci := f37_ok nb l j idB hj hl hm
    have eb : ∀ a b : List UInt8, (a == b) = decide (a = b) := fun a b => by by_cases h : a = b <;> simp [h]
    obtain ⟨S, hS⟩ : ∃ S, textJ l j stB = S := ⟨_, rfl⟩
    obtain ⟨I, hI⟩ : ∃ I, textJ l j idB = I := ⟨_, rfl⟩
    rw [hS] at cs hR
    rw [hI] at ci hR
    have cs' : CallsP Tryd.prog 37 [.sl none nb 4 (l.map JN.av), .int .i64 (j : Int), .str [115, 116, 97, 116, 117, 115]] _ := cs
    have ci' : CallsP Tryd.prog 37 [.sl none nb 4 (l.map JN.av), .int .i64 (j : Int), .str [105, 100]] _ := ci
    have c20' : CallsP Tryd.prog 20 [.sl none nb 4 (l.map JN.av), .int .i64 0, .str [116, 111, 107, 101, 110, 66, 105, 110, 100, 105, 110, 103]] _ := c20
    clear cs ci c20
    cases S with
    | none =>
      rw [if_neg (fun h => by cases h.1), if_neg (fun h => by cases h)] at hR
      subst hR
      simp only [Option.isSome_none, Option.getD_none] at cs'
      cases I with
      | none =>
          repeat' first
           | with_reducible refine Rl.go (by constructor <;> decide) ?_
           | ((with_reducible first | refine hK _ ?_ | refine hK.1 ?_ | refine hK.2 ?_); clear hK K)
           | ((with_reducible refine condS hK (fun hg => ?_) fun hg => ?_) <;> clear hK K <;> (try simp only [hgW] at hg) <;> try (exfalso; omega))
           | ((first | ((with_reducible first | refine Rk.go k27_VsRCli (by constructor) ?_); intro K hK) | with_reducible refine Rr.go [] (by constructor) ?_ | (with_reducible refine guardP_split (fun hg => ?_) fun hg => ?_) <;> (try simp only [hg]) <;> (try simp only [hgW] at hg) | refine Rc.go (c20') (by constructor) ?_ | refine Rc.go (cs') (by constructor) ?_ | refine Rc.go (ci') (by constructor) ?_) <;> simp -implicitDefEqProofs only [CL.cells, CL.zero, Option.isSome_none, Option.getD_none, hn, go_sem, simprocAttr] <;> try (simp (disch := omega) only [wrW]; try simp -implicitDefEqProofs only [CL.cells, CL.zero, Option.isSome_none, Option.getD_none, hn, go_sem, simprocAttr]))
           | with_reducible refine And.intro (by first | omega | (simp only [hgW]; omega)) ?_
           | (exfalso; omega)
      | some d =>
          repeat' first
           | with_reducible refine Rl.go (by constructor <;> decide) ?_
           | ((with_reducible first | refine hK _ ?_ | refine hK.1 ?_ | refine hK.2 ?_); clear hK K)
           | ((with_reducible refine condS hK (fun hg => ?_) fun hg => ?_) <;> clear hK K <;> (try simp only [hgW] at hg) <;> try (exfalso; omega))
           | ((first | ((with_reducible first | refine Rk.go k27_VsRCli (by constructor) ?_); intro K hK) | with_reducible refine Rr.go [] (by constructor) ?_ | (with_reducible refine guardP_split (fun hg => ?_) fun hg => ?_) <;> (try simp only [hg]) <;> (try simp only [hgW] at hg) | refine Rc.go (c20') (by constructor) ?_ | refine Rc.go (cs') (by constructor) ?_ | refine Rc.go (ci') (by constructor) ?_) <;> simp -implicitDefEqProofs only [CL.cells, CL.zero, Option.isSome_some, Option.getD_some, hn, go_sem, simprocAttr] <;> try (simp (disch := omega) only [wrW]; try simp -implicitDefEqProofs only [CL.cells, CL.zero, Option.isSome_some, Option.getD_some, hn, go_sem, simprocAttr]))
           | with_reducible refine And.intro (by first | omega | (simp only [hgW]; omega)) ?_
           | (exfalso; omega)
    | some s =>
      simp only [Option.isSome_some, Option.getD_some] at cs'
      by_cases hp : s = prB
      · subst hp
        have e1 : (prB == [112, 114, 101, 115, 101, 110, 116]) = true := by decide
        have e2 : (prB == [115, 117, 112, 112, 111, 114, 116, 101, 100]) = false := by decide
        cases I with
        | none =>
          rw [if_neg (fun h => by cases h.2), if_neg (by decide)] at hR
          subst hR
          repeat' first
           | with_reducible refine Rl.go (by constructor <;> decide) ?_
           | ((with_reducible first | refine hK _ ?_ | refine hK.1 ?_ | refine hK.2 ?_); clear hK K)
           | ((with_reducible refine condS hK (fun hg => ?_) fun hg => ?_) <;> clear hK K <;> (try simp only [hgW] at hg) <;> try (exfalso; omega))
           | ((first | ((with_reducible first | refine Rk.go k27_VsRCli (by constructor) ?_); intro K hK) | with_reducible refine Rr.go [] (by constructor) ?_ | (with_reducible refine guardP_split (fun hg => ?_) fun hg => ?_) <;> (try simp only [hg]) <;> (try simp only [hgW] at hg) | refine Rc.go (c20') (by constructor) ?_ | refine Rc.go (cs') (by constructor) ?_ | refine Rc.go (ci') (by constructor) ?_) <;> simp -implicitDefEqProofs only [CL.cells, CL.zero, e1, e2, Option.isSome_none, Option.getD_none, hn, go_sem, simprocAttr] <;> try (simp (disch := omega) only [wrW]; try simp -implicitDefEqProofs only [CL.cells, CL.zero, e1, e2, Option.isSome_none, Option.getD_none, hn, go_sem, simprocAttr]))
           | with_reducible refine And.intro (by first | omega | (simp only [hgW]; omega)) ?_
           | (exfalso; omega)
        | some d =>
          have c38 := f38_ok d
          rw [if_pos ⟨rfl, rfl⟩, Option.getD_some] at hR
          by_cases hd : (decS d).2 = 0
          · rw [if_pos hd] at hR
            subst hR
            rw [hd] at c38
            repeat' first
             | with_reducible refine Rl.go (by constructor <;> decide) ?_
             | ((with_reducible first | refine hK _ ?_ | refine hK.1 ?_ | refine hK.2 ?_); clear hK K)
             | ((with_reducible refine condS hK (fun hg => ?_) fun hg => ?_) <;> clear hK K <;> (try simp only [hgW] at hg) <;> try (exfalso; omega))
             | ((first | ((with_reducible first | refine Rk.go k27_VsRCli (by constructor) ?_); intro K hK) | with_reducible refine Rr.go [] (by constructor) ?_ | (with_reducible refine guardP_split (fun hg => ?_) fun hg => ?_) <;> (try simp only [hg]) <;> (try simp only [hgW] at hg) | refine Rc.go (c20') (by constructor) ?_ | refine Rc.go (cs') (by constructor) ?_ | refine Rc.go (ci') (by constructor) ?_ | refine Rc.go c38 (by constructor) ?_) <;> simp -implicitDefEqProofs only [CL.cells, CL.zero, e1, e2, Option.isSome_some, Option.getD_some, hn, go_sem, simprocAttr] <;> try (simp (disch := omega) only [wrW]; try simp -implicitDefEqProofs only [CL.cells, CL.zero, e1, e2, Option.isSome_some, Option.getD_some, hn, go_sem, simprocAttr]))
             | with_reducible refine And.intro (by first | omega | (simp only [hgW]; omega)) ?_
             | (exfalso; omega)
          · rw [if_neg hd] at hR
            subst hR
            repeat' first
             | with_reducible refine Rl.go (by constructor <;> decide) ?_
             | ((with_reducible first | refine hK _ ?_ | refine hK.1 ?_ | refine hK.2 ?_); clear hK K)
             | ((with_reducible refine condS hK (fun hg => ?_) fun hg => ?_) <;> clear hK K <;> (try simp only [hgW] at hg) <;> try (exfalso; omega))
             | ((first | ((with_reducible first | refine Rk.go k27_VsRCli (by constructor) ?_); intro K hK) | with_reducible refine Rr.go [] (by constructor) ?_ | (with_reducible refine guardP_split (fun hg => ?_) fun hg => ?_) <;> (try simp only [hg]) <;> (try simp only [hgW] at hg) | refine Rc.go (c20') (by constructor) ?_ | refine Rc.go (cs') (by constructor) ?_ | refine Rc.go (ci') (by constructor) ?_ | refine Rc.go c38 (by constructor) ?_) <;> simp -implicitDefEqProofs only [CL.cells, CL.zero, e1, e2, Option.isSome_some, Option.getD_some, hn, go_sem, simprocAttr] <;> try (simp (disch := omega) only [wrW]; try simp -implicitDefEqProofs only [CL.cells, CL.zero, e1, e2, Option.isSome_some, Option.getD_some, hn, go_sem, simprocAttr]))
             | with_reducible refine And.intro (by first | omega | (simp only [hgW]; omega)) ?_
             | (exfalso; omega)
      have e1 : (s == [112, 114, 101, 115, 101, 110, 116]) = false := by rw [eb]; exact decide_eq_false hp
      rw [if_neg (fun h => hp (Option.some.inj h.1))] at hR
      by_cases hs : s = suB
      · subst hs
        have e2 : (suB == [115, 117, 112, 112, 111, 114, 116, 101, 100]) = true := by decide
        rw [if_pos rfl] at hR
        subst hR
        cases I with
        | none =>
          repeat' first
           | with_reducible refine Rl.go (by constructor <;> decide) ?_
           | ((with_reducible first | refine hK _ ?_ | refine hK.1 ?_ | refine hK.2 ?_); clear hK K)
           | ((with_reducible refine condS hK (fun hg => ?_) fun hg => ?_) <;> clear hK K <;> (try simp only [hgW] at hg) <;> try (exfalso; omega))
           | ((first | ((with_reducible first | refine Rk.go k27_VsRCli (by constructor) ?_); intro K hK) | with_reducible refine Rr.go [] (by constructor) ?_ | (with_reducible refine guardP_split (fun hg => ?_) fun hg => ?_) <;> (try simp only [hg]) <;> (try simp only [hgW] at hg) | refine Rc.go (c20') (by constructor) ?_ | refine Rc.go (cs') (by constructor) ?_ | refine Rc.go (ci') (by constructor) ?_) <;> simp -implicitDefEqProofs only [CL.cells, CL.zero, e1, e2, Option.isSome_none, Option.getD_none, hn, go_sem, simprocAttr] <;> try (simp (disch := omega) only [wrW]; try simp -implicitDefEqProofs only [CL.cells, CL.zero, e1, e2, Option.isSome_none, Option.getD_none, hn, go_sem, simprocAttr]))
           | with_reducible refine And.intro (by first | omega | (simp only [hgW]; omega)) ?_
           | (exfalso; omega)
        | some d =>
          repeat' first
           | with_reducible refine Rl.go (by constructor <;> decide) ?_
           | ((with_reducible first | refine hK _ ?_ | refine hK.1 ?_ | refine hK.2 ?_); clear hK K)
           | ((with_reducible refine condS hK (fun hg => ?_) fun hg => ?_) <;> clear hK K <;> (try simp only [hgW] at hg) <;> try (exfalso; omega))
           | ((first | ((with_reducible first | refine Rk.go k27_VsRCli (by constructor) ?_); intro K hK) | with_reducible refine Rr.go [] (by constructor) ?_ | (with_reducible refine guardP_split (fun hg => ?_) fun hg => ?_) <;> (try simp only [hg]) <;> (try simp only [hgW] at hg) | refine Rc.go (c20') (by constructor) ?_ | refine Rc.go (cs') (by constructor) ?_ | refine Rc.go (ci') (by constructor) ?_) <;> simp -implicitDefEqProofs only [CL.cells, CL.zero, e1, e2, Option.isSome_some, Option.getD_some, hn, go_sem, simprocAttr] <;> try (simp (disch := omega) only [wrW]; try simp -implicitDefEqProofs only [CL.cells, CL.zero, e1, e2, Option.isSome_some, Option.getD_some, hn, go_sem, simprocAttr]))
           | with_reducible refine And.intro (by first | omega | (simp only [hgW]; omega)) ?_
           | (exfalso; omega)
      · have e2 : (s == [115, 117, 112, 112, 111, 114, 116, 101, 100]) = false := by rw [eb]; exact decide_eq_false hs
        rw [if_neg (fun h => hs (Option.some.inj h))] at hR
        subst hR
        cases I with
        | none =>
          repeat' first
           | with_reducible refine Rl.go (by constructor <;> decide) ?_
           | ((with_reducible first | refine hK _ ?_ | refine hK.1 ?_ | refine hK.2 ?_); clear hK K)
           | ((with_reducible refine condS hK (fun hg => ?_) fun hg => ?_) <;> clear hK K <;> (try simp only [hgW] at hg) <;> try (exfalso; omega))
           | ((first | ((with_reducible first | refine Rk.go k27_VsRCli (by constructor) ?_); intro K hK) | with_reducible refine Rr.go [] (by constructor) ?_ | (with_reducible refine guardP_split (fun hg => ?_) fun hg => ?_) <;> (try simp only [hg]) <;> (try simp only [hgW] at hg) | refine Rc.go (c20') (by constructor) ?_ | refine Rc.go (cs') (by constructor) ?_ | refine Rc.go (ci') (by constructor) ?_) <;> simp -implicitDefEqProofs only [CL.cells, CL.zero, e1, e2, Option.isSome_none, Option.getD_none, hn, go_sem, simprocAttr] <;> try (simp (disch := omega) only [wrW]; try simp -implicitDefEqProofs only [CL.cells, CL.zero, e1, e2, Option.isSome_none, Option.getD_none, hn, go_sem, simprocAttr]))
           | with_reducible refine And.intro (by first | omega | (simp only [hgW]; omega)) ?_
           | (exfalso; omega)
        | some d =>
          repeat' first
           | with_reducible refine Rl.go (by constructor <;> decide) ?_
           | ((with_reducible first | refine hK _ ?_ | refine hK.1 ?_ | refine hK.2 ?_); clear hK K)
           | ((with_reducible refine condS hK (fun hg => ?_) fun hg => ?_) <;> clear hK K <;> (try simp only [hgW] at hg) <;> try (exfalso; omega))
           | ((first | ((with_reducible first | refine Rk.go k27_VsRCli (by constructor) ?_); intro K hK) | with_reducible refine Rr.go [] (by constructor) ?_ | (with_reducible refine guardP_split (fun hg => ?_) fun hg => ?_) <;> (try simp only [hg]) <;> (try simp only [hgW] at hg) | refine Rc.go (c20') (by constructor) ?_ | refine Rc.go (cs') (by constructor) ?_ | refine Rc.go (ci') (by constructor) ?_) <;> simp -implicitDefEqProofs only [CL.cells, CL.zero, e1, e2, Option.isSome_some, Option.getD_some, hn, go_sem, simprocAttr] <;> try (simp (disch := omega) only [wrW]; try simp -implicitDefEqProofs only [CL.cells, CL.zero, e1, e2, Option.isSome_some, Option.getD_some, hn, go_sem, simprocAttr]))
           | with_reducible refine And.intro (by first | omega | (simp only [hgW]; omega)) ?_
           | (exfalso; omega)
end Go.Proofs.YtfemncfhiihckaaDoor
