/- A value's text is read, with any blanks between its pieces: the nodes are its own. -/
import Derived.Test.YtfemncfhiihckaaDoorVsPLeaf
open Go Go.VS
namespace Go.Proofs.YtfemncfhiihckaaDoor
set_option linter.unusedVariables false
set_option linter.unusedSimpArgs false
set_option maxRecDepth 20000
set_option maxHeartbeats 4000000
theorem open_ok {s : RJ} (h : s.deep + 1 ≤ 8) : openS s = { s with deep := s.deep + 1, at_ := s.at_ + 1 } := by
  unfold openS
  rw [if_neg (by omega)]
/-- A row of values within brackets. -/
def groupN (obj : Bool) (its : List It) (base : Nat) : List JN :=
  (bif obj then ⟨1, [], (List.range its.length).map nmI, (nodesI (base + 1) its).2⟩ else ⟨2, [], [], (nodesI (base + 1) its).2⟩) :: (nodesI (base + 1) its).1
/-- What a value's text begins with. -/
def HeadOk (T : List UInt8) : Prop := ∃ c T', T = c :: T' ∧ blank c = false ∧ c ≠ 93
theorem group_reads {val : RJ → Nat × RJ} {deep : Nat} {gap : List UInt8} (hg : AllB gap) (hd8 : deep + 1 ≤ 8) (obj : Bool) (its : List It) (h20 : its.length < 18) (hH : ∀ x ∈ its, HeadOk x.1) (hR : ∀ x ∈ its, Reads val (deep + 1) x.1 x.2) :
    Reads (valueS val) deep (opT obj :: bodyI obj gap its) (groupN obj its) := by
  refine value_reads (by cases obj <;> decide) (fun base => by simp [groupN]) fun s X base hd he hl hb h hX => ?_
  have ho := open_ok (s := s) (by omega)
  have hm : At (openS s) (bodyI obj gap its ++ X) := by rw [ho]; exact At.move (p := [opT obj]) h
  have hod : (openS s).deep = deep + 1 := by rw [ho]; show s.deep + 1 = deep + 1; rw [hd]
  have hoe : (openS s).err = 0 := by rw [ho]; exact he
  have hon : (openS s).nodes = s.nodes := by rw [ho]
  have hob : (openS s).b = s.b := by rw [ho]
  have hshut : ∀ (t : RJ) (M : List JN), Aft (openS s) t M X → Aft s (shutS t) M X := fun t M k => ⟨k.b.trans hob, by show t.deep - 1 = s.deep; rw [k.deep, hod, hd]; rfl, k.err, by show t.nodes = _; rw [k.nodes, hon], k.at_⟩
  have hsb : blank (shT obj) = false := by cases obj <;> decide
  cases its with
  | nil =>
    have hm' : At (openS s) (gap ++ shT obj :: X) := by simpa [bodyI] using hm
    obtain ⟨y1, y2⟩ := sign_yes hoe hm' hg hsb
    have hbd : bodyS val (opT obj) s = (bif obj then ⟨1, [], [], []⟩ else ⟨2, [], [], []⟩, shutS (signS (openS s) (shT obj)).2) := by
      cases obj
      · show bodyS val 91 s = _
        unfold bodyS arrayS; rw [if_neg (by decide), if_pos rfl]; exact if_pos y1
      · show bodyS val 123 s = _
        unfold bodyS objectS; rw [if_pos rfl]; exact if_pos y1
    rw [hbd]
    refine ⟨fun _ => ⟨[], by cases obj <;> simp [groupN, nodesI], hshut _ _ y2⟩, fun hm => ?_⟩
    simp [groupN, nodesI] at hm; omega
  | cons it its =>
    obtain ⟨c, T', hT, hc1, hc2⟩ := hH it (by simp)
    have hdist : ∀ base : Nat, (groupN obj (it :: its) base).length = 1 + (nodesI (base + 1) (it :: its)).1.length := fun base => by simp only [groupN, List.length_cons]; omega
    cases obj with
    | false =>
      have h1 : At (openS s) (gap ++ c :: (T' ++ (tailI false gap 1 its ++ X))) := by
        have := hm
        rw [bodyI, hT] at this
        simpa [preI, List.append_assoc] using this
      obtain ⟨y1, y2⟩ := sign_no (c := 93) hoe h1 hg hc1 hc2
      have hln : (signS (openS s) 93).2.nodes = s.nodes := by rw [y2.nodes, List.append_nil, hon]
      have h2 : At (signS (openS s) 93).2 ([] ++ (it.1 ++ (tailI false gap 1 its ++ X))) := by rw [hT]; exact y2.at_
      obtain ⟨r1, r2⟩ := arr_reads hg its it 300 1 (signS (openS s) 93).2 [] [] X (fun _ hx => by cases hx) hR (by simp only [List.length_cons] at h20; omega) (y2.deep.trans hod) y2.err (by rw [hln]; omega) h2
      rw [hln, hl] at r1 r2
      have hbd : bodyS val (opT false) s = (⟨2, [], [], (arrS val 300 (signS (openS s) 93).2 []).1⟩, shutS (arrS val 300 (signS (openS s) 93).2 []).2) := by
        show bodyS val 91 s = _
        unfold bodyS arrayS; rw [if_neg (by decide), if_pos rfl, if_neg (by rw [y1]; decide)]
      rw [hbd, hdist]
      refine ⟨fun hm => ?_, fun hm => r2 (by omega)⟩
      obtain ⟨w1, w2⟩ := r1 (by omega)
      refine ⟨_, ?_, hshut _ _ (y2.trans0 w2)⟩
      rw [w1]; rfl
    | true =>
      have h1 : At (openS s) (gap ++ 34 :: (UInt8.ofNat (97 + 0) :: 34 :: (gap ++ 58 :: (gap ++ (it.1 ++ (tailI true gap 1 its ++ X)))))) := by
        have := hm
        rw [bodyI] at this
        simpa [preI, List.append_assoc] using this
      obtain ⟨y1, y2⟩ := sign_no (c := 125) hoe h1 hg (by decide) (by decide)
      have hln : (signS (openS s) 125).2.nodes = s.nodes := by rw [y2.nodes, List.append_nil, hon]
      have h2 : At (signS (openS s) 125).2 ([] ++ (preI true gap 0 ++ (it.1 ++ (tailI true gap (0 + 1) its ++ X)))) := by
        have := y2.at_
        simpa [preI, List.append_assoc] using this
      obtain ⟨r1, r2⟩ := obj_reads hg its it 300 0 (signS (openS s) 125).2 [] [] X (fun _ hx => by cases hx) hR (by simp only [List.length_cons] at h20; omega) (by simp only [List.length_cons] at h20; omega) (y2.deep.trans hod) y2.err (by rw [hln]; omega) h2
      rw [hln, hl] at r1 r2
      have hbd : bodyS val (opT true) s = (⟨1, [], (objS val 300 (signS (openS s) 125).2 [] []).1.1, (objS val 300 (signS (openS s) 125).2 [] []).1.2⟩, shutS (objS val 300 (signS (openS s) 125).2 [] []).2) := by
        show bodyS val 123 s = _
        unfold bodyS objectS; rw [if_pos rfl, if_neg (by rw [y1]; decide)]
      rw [hbd, hdist]
      refine ⟨fun hm => ?_, fun hm => r2 (by omega)⟩
      obtain ⟨w1, w2⟩ := r1 (by omega)
      refine ⟨_, ?_, hshut _ _ (y2.trans0 w2)⟩
      have w1' : (objS val 300 (signS (openS s) 125).2 [] []).1 = _ := w1
      rw [w1', show 0 + 1 + its.length = (it :: its).length by simp only [List.length_cons]; omega]
      rfl
end Go.Proofs.YtfemncfhiihckaaDoor
