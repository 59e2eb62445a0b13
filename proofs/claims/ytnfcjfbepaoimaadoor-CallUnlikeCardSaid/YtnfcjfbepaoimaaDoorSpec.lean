/- What XDR, entries, calls mean: plain functions on lists of bytes; no program is named. -/
set_option linter.unusedVariables false
namespace Go.Proofs.YtnfcjfbepaoimaaDoor

/-- A reader: what is left, and the first error. -/
abbrev RS := List UInt8 × Int

def rTake (s : RS) (n : Nat) : List UInt8 × RS :=
  if s.2 ≠ 0 then ([], s) else if s.1.length < n then ([], (s.1, 10)) else (s.1.take n, (s.1.drop n, 0))
def be (l : List UInt8) : Nat := l.foldl (fun x b => x * 256 + b.toNat) 0
def rNum (s : RS) (n : Nat) : Nat × RS := (be (rTake s n).1, (rTake s n).2)
def rU32 (s : RS) : Nat × RS := rNum s 4
def rU64 (s : RS) : Nat × RS := rNum s 8
def rFail (s : RS) (c : Int) : RS := if s.2 = 0 then (s.1, c) else s
def rBool (s : RS) : Bool × RS := if 1 < (rU32 s).1 then (false, rFail (rU32 s).2 11) else ((rU32 s).1 == 1, (rU32 s).2)
def fill (n : Nat) : Nat := (4 - n % 4) % 4
def rOpaque (s : RS) (most : Nat) : List UInt8 × RS :=
  if (rU32 s).2.2 ≠ 0 then ([], (rU32 s).2)
  else if most < (rU32 s).1 then ([], ((rU32 s).2.1, 13))
  else if (rTake (rU32 s).2 ((rU32 s).1 + fill (rU32 s).1)).2.2 ≠ 0 then ([], (rTake (rU32 s).2 ((rU32 s).1 + fill (rU32 s).1)).2)
  else if ((rTake (rU32 s).2 ((rU32 s).1 + fill (rU32 s).1)).1.drop (rU32 s).1).any (· != 0) then ([], ((rTake (rU32 s).2 ((rU32 s).1 + fill (rU32 s).1)).2.1, 11))
  else ((rTake (rU32 s).2 ((rU32 s).1 + fill (rU32 s).1)).1.take (rU32 s).1, (rTake (rU32 s).2 ((rU32 s).1 + fill (rU32 s).1)).2)
def rEnd (s : RS) : Int := if s.2 ≠ 0 then s.2 else if 0 < s.1.length then 12 else 0

theorem be_append (l : List UInt8) (b : UInt8) : be (l ++ [b]) = be l * 256 + b.toNat := by simp [be, List.foldl_append]
theorem be_fold_lt : ∀ (l : List UInt8) (x : Nat), l.foldl (fun x b => x * 256 + b.toNat) x < (x + 1) * 256 ^ l.length
  | [], x => by simp
  | b :: l, x => by
    have h := be_fold_lt l (x * 256 + b.toNat)
    have := b.toNat_lt
    simp only [List.foldl_cons, List.length_cons, Nat.pow_succ]
    refine Nat.lt_of_lt_of_le h ?_
    rw [Nat.mul_comm (256 ^ l.length) 256, ← Nat.mul_assoc]
    exact Nat.mul_le_mul_right _ (by omega)
theorem be_lt (l : List UInt8) : be l < 256 ^ l.length := by have := be_fold_lt l 0; simpa [be] using this
theorem rTake_len (s : RS) (n : Nat) : (rTake s n).1.length ≤ n := by
  unfold rTake; split
  · simp
  · split
    · simp
    · simp; omega
theorem rNum_lt (s : RS) (n : Nat) : (rNum s n).1 < 256 ^ n :=
  Nat.lt_of_lt_of_le (be_lt _) (Nat.pow_le_pow_right (by decide) (rTake_len s n))
theorem rU32_lt (s : RS) : (rU32 s).1 < 4294967296 := rNum_lt s 4
theorem rU64_lt (s : RS) : (rU64 s).1 < 18446744073709551616 := rNum_lt s 8
theorem rTake_rest_le (s : RS) (n : Nat) : (rTake s n).2.1.length ≤ s.1.length := by
  unfold rTake; split
  · simp
  · split
    · simp
    · simp

/-- The lowest n bytes of x, the highest first. -/
def enc : Nat → Nat → List UInt8
  | 0, _ => []
  | n + 1, x => UInt8.ofNat (x / 256 ^ n) :: enc n x
theorem enc_length (n x : Nat) : (enc n x).length = n := by induction n with
  | zero => rfl
  | succ n ih => simp [enc, ih]
def pU32 (x : Nat) : List UInt8 := enc 4 x
def pU64 (x : Nat) : List UInt8 := enc 8 x
def pBool (b : Bool) : List UInt8 := pU32 (if b then 1 else 0)
def pOpaque (l : List UInt8) : List UInt8 := pU32 (l.length % 4294967296) ++ l ++ List.replicate (fill l.length) 0
theorem pU32_length (x : Nat) : (pU32 x).length = 4 := enc_length 4 x
theorem pU64_length (x : Nat) : (pU64 x).length = 8 := enc_length 8 x
theorem pBool_length (b : Bool) : (pBool b).length = 4 := enc_length 4 _
theorem pOpaque_length (l : List UInt8) : (pOpaque l).length = 4 + l.length + fill l.length := by simp [pOpaque, pU32_length, Nat.add_assoc]

/-- An entry of a directory. -/
structure Ent where
  cookie : Nat
  ino : Nat
  gen : Nat
  name : ByteArray
  deriving DecidableEq, Inhabited

def Ent.ok (e : Ent) : Prop := e.cookie < 18446744073709551616 ∧ e.ino < 4294967296 ∧ e.gen < 4294967296
def nmEq (a b : ByteArray) : Bool := a.toList == b.toList
def findI (l : List Ent) (name : ByteArray) : Int := match l.findIdx? (fun e => nmEq e.name name) with | some i => (i : Int) | none => -1
end Go.Proofs.YtnfcjfbepaoimaaDoor
