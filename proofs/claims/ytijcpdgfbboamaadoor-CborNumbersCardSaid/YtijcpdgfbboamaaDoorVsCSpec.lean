/- Items of CBOR as data, and what reading them comes to: plain definitions, no program in sight. -/
import Derived.Test.YtijcpdgfbboamaaDoorVsTy
open Go Go.VS
namespace Go.Proofs.YtijcpdgfbboamaaDoor
set_option linter.unusedVariables false
/-- An item: its kind, its number, its bytes, its kids; of both slices, whether they are nil. -/
inductive CI where
  | mk (k n : Nat) (bn : Bool) (b : List UInt8) (kn : Bool) (ks : List CI)
mutual
def CI.av : CI → AV
  | .mk k n bn b kn ks => .agg [.int .u8 (k : Int), .int .u64 (n : Int), .sl none bn 1 (b.map u8), .sl none kn 4 (avs ks)]
def avs : List CI → List AV
  | [] => []
  | c :: cs => c.av :: avs cs
end
def CI.k : CI → Nat | .mk k _ _ _ _ _ => k
def CI.n : CI → Nat | .mk _ n _ _ _ _ => n
def CI.bn : CI → Bool | .mk _ _ b _ _ _ => b
def CI.b : CI → List UInt8 | .mk _ _ _ b _ _ => b
def CI.kn : CI → Bool | .mk _ _ _ _ k _ => k
def CI.ks : CI → List CI | .mk _ _ _ _ _ ks => ks
def CI.zero : CI := .mk 0 0 true [] true []
theorem avs_map : ∀ (l : List CI), avs l = l.map CI.av
  | [] => rfl
  | c :: cs => by simp [avs, avs_map cs]
instance : Inhabited CI := ⟨.zero⟩
theorem CI.eta : ∀ (i : CI), i = .mk i.k i.n i.bn i.b i.kn i.ks
  | .mk .. => rfl

/-- Bytes as a number, the greatest first. -/
def be (l : List UInt8) : Nat := l.foldl (fun n c => n * 256 + c.toNat) 0
theorem be_snoc (l : List UInt8) (c : UInt8) : be (l ++ [c]) = be l * 256 + c.toNat := by simp [be]
theorem be_lt_go : ∀ (l : List UInt8) (n : Nat), l.foldl (fun n c => n * 256 + c.toNat) n < (n + 1) * 256 ^ l.length
  | [], n => by simp
  | c :: l, n => by
    have h := be_lt_go l (n * 256 + c.toNat)
    have hc := c.toNat_lt
    simp only [List.foldl_cons, List.length_cons, Nat.pow_succ]
    refine Nat.lt_of_lt_of_le h ?_
    rw [Nat.mul_comm (256 ^ l.length) 256, ← Nat.mul_assoc]
    exact Nat.mul_le_mul_right _ (by omega)
theorem be_lt (l : List UInt8) : be l < 256 ^ l.length := by
  have := be_lt_go l 0
  simpa [be] using this

/-- What a reader holds: its bytes, its items, its first fault. -/
structure RS where
  b : List UInt8
  items : Nat
  err : Nat
/-- It, as cells. -/
def RS.cells (s : RS) (nb : Bool) : List AV := [.sl none nb 1 (s.b.map u8), .int .i64 (s.items : Int), .int .i64 (s.err : Int)]
def RS.fail (s : RS) (e : Nat) : RS := if s.err = 0 then { s with err := e } else s

/-- A kind, and its number. -/
def headS (s : RS) : Nat × Nat × RS :=
  if s.b.length = 0 then (0, 0, s.fail 20)
  else
    let c := (s.b.getD 0 default).toNat
    let r := s.b.drop 1
    if c % 32 < 24 ∨ c / 32 = 7 then (c / 32, c % 32, { s with b := r })
    else if 27 < c % 32 ∨ r.length < 2 ^ (c % 32 - 24) then (0, 0, ({ s with b := r } : RS).fail 20)
    else
      let z := 2 ^ (c % 32 - 24)
      let n := be (r.take z)
      let s2 : RS := { s with b := r.drop z }
      (c / 32, n, if (z = 1 ∧ n < 24) ∨ (1 < z ∧ n / 2 ^ (4 * z) = 0) then s2.fail 22 else s2)

def plainS (i : CI) : Bool := decide (1 ≤ i.k) && decide (i.k ≤ 4)
def cmpN (x y : Nat) : Int := if x < y then -1 else if y < x then 1 else 0
/-- How bytes stand to others. -/
def cmpB : List UInt8 → List UInt8 → Int
  | [], [] => 0
  | [], _ :: _ => -1
  | _ :: _, [] => 1
  | x :: xs, y :: ys => if x < y then -1 else if y < x then 1 else cmpB xs ys
def orderS (i j : CI) : Int :=
  if i.k ≠ j.k then cmpN i.k j.k
  else if i.k ≤ 2 then cmpN i.n j.n
  else if i.b.length ≠ j.b.length then cmpN i.b.length j.b.length
  else cmpB i.b j.b

section
variable (valid : List UInt8 → Bool) (it : RS → CI × RS)
/-- So many items. -/
def arrS : Nat → RS → List CI → CI × RS
  | 0, s, ks => (.mk 5 0 true [] ks.isEmpty ks, s)
  | n + 1, s, ks =>
    if (it s).2.err ≠ 0 then (.zero, (it s).2) else arrS n (it s).2 (ks ++ [(it s).1])
/-- A key has been read: may it stand there? -/
def keyS (k : CI) (s : RS) (ks : List CI) : RS :=
  let s2 := if s.err = 0 ∧ plainS k = false then s.fail 20 else s
  if s2.err = 0 ∧ ks ≠ [] ∧ 0 ≤ orderS (ks.getD (ks.length - 2) default) k then s2.fail 21 else s2
/-- So many keys, each with a value. -/
def pairS : Nat → RS → List CI → CI × RS
  | 0, s, ks => (.mk 6 0 true [] ks.isEmpty ks, s)
  | n + 1, s, ks =>
    let s3 := keyS (it s).1 (it s).2 ks
    if (it s3).2.err ≠ 0 then (.zero, (it s3).2) else pairS n (it s3).2 (ks ++ [(it s).1, (it s3).1])
def bytesS (kind n : Nat) (s : RS) : CI × RS :=
  if s.b.length < n then (.zero, s.fail 20)
  else
    let s2 : RS := { s with b := s.b.drop n }
    if kind = 2 then (.mk 3 0 false (s.b.take n) true [], s2)
    else if valid (s.b.take n) = false then (.zero, s2.fail 23) else (.mk 4 0 false (s.b.take n) true [], s2)
end
/-- One item, with others within it so deep. -/
def itemS (valid : List UInt8 → Bool) : Nat → RS → CI × RS
  | deep, s =>
    let s1 : RS := { s with items := s.items + 1 }
    if 512 < s1.items then (.zero, s1.fail 14)
    else
      let h := headS s1
      let s2 := h.2.2
      if s2.err ≠ 0 then (.zero, s2)
      else if h.1 = 0 then (.mk 1 h.2.1 true [] true [], s2)
      else if h.1 = 1 then (.mk 2 h.2.1 true [] true [], s2)
      else if h.1 = 2 ∨ h.1 = 3 then bytesS valid h.1 h.2.1 s2
      else if h.1 = 4 ∨ h.1 = 5 then
        match deep with
        | 0 => (.zero, s2.fail 13)
        | d + 1 => if h.1 = 4 then arrS (itemS valid d) h.2.1 s2 [] else pairS (itemS valid d) h.2.1 s2 []
      else if h.1 = 7 ∧ 20 ≤ h.2.1 ∧ h.2.1 ≤ 22 then (.mk (7 + (h.2.1 - 20)) 0 true [] true [], s2)
      else (.zero, s2.fail 20)
end Go.Proofs.YtijcpdgfbboamaaDoor
