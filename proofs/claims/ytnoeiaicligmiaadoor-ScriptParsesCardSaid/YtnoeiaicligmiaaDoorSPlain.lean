/- The text form of scripts, in plain Lean. No program in sight. -/
import Derived.Lib.ItoaNum
import Derived.Lib.Split
import Derived.Lib.IndexMore
namespace Go.Proofs.YtnoeiaicligmiaaDoor
set_option linter.unusedVariables false
set_option linter.unusedSimpArgs false
open Go
structure OpD where
  kind : Int
  handle : Int
  key : ByteArray
  value : Int
  expect : Int
structure ScrD where
  mask : Int
  threads : List (List OpD)
  picks : List Int
def ScrD.nil : ScrD := ⟨0, [], []⟩
/-! ### texts -/
def natT (v : Int) : List UInt8 := Lib.decDigits v.toNat
def hexD (n : Nat) : UInt8 := if n < 10 then UInt8.ofNat (48 + n) else UInt8.ofNat (87 + n)
def keyT (k : List UInt8) : List UInt8 := 120 :: k.flatMap (fun b => [hexD (b.toNat / 16), hexD (b.toNat % 16)])
def lineT (o : OpD) : List UInt8 := Lib.itoa o.kind ++ 32 :: (Lib.itoa o.handle ++ 32 :: (keyT o.key.data.toList ++ 32 :: (natT o.value ++ 32 :: (natT o.expect ++ [10]))))
def maskW : List UInt8 := [109, 97, 115, 107]
def threadW : List UInt8 := [116, 104, 114, 101, 97, 100]
def picksW : List UInt8 := [112, 105, 99, 107, 115]
def threadT (t : List OpD) : List UInt8 := threadW ++ 10 :: t.flatMap lineT
def textS (s : ScrD) : List UInt8 := maskW ++ 32 :: (natT s.mask ++ 10 :: (s.threads.flatMap threadT ++ (picksW ++ (s.picks.flatMap (fun p => 32 :: Lib.itoa p) ++ [10]))))
def maxText : Nat := 1048576
def checkS (s : ScrD) : Int :=
  if 8 < s.threads.length ∨ 67108864 < s.picks.length then 3
  else if s.threads.any (fun t => decide (16 < t.length)) then 3 else 0
def formatS (s : ScrD) : List UInt8 × Int :=
  if checkS s ≠ 0 then ([], 3) else if maxText < (textS s).length then ([], 3) else (textS s, 0)
def opsS (s : ScrD) : Int := (s.threads.map List.length).sum
/-! ### words and lines -/
def words : List UInt8 → List (List UInt8)
  | [] => [[]]
  | b :: r => if b = 32 then [] :: words r else
    match words r with
    | [] => [[b]]
    | x :: xs => (b :: x) :: xs
/-- the lines that end, and what stands behind them -/
def linesOf : List UInt8 → List (List UInt8) × List UInt8
  | [] => ([], [])
  | b :: r => if b = 10 then ([] :: (linesOf r).1, (linesOf r).2) else
    match (linesOf r).1 with
    | [] => ([], b :: (linesOf r).2)
    | x :: xs => ((b :: x) :: xs, (linesOf r).2)
/-! ### numbers -/
def digits (acc : Nat) : List UInt8 → Option Nat
  | [] => some acc
  | b :: r => if 48 ≤ b.toNat ∧ b.toNat ≤ 57 ∧ acc * 10 + (b.toNat - 48) < 18446744073709551616 then digits (acc * 10 + (b.toNat - 48)) r else none
def readNat (l : List UInt8) : Option Nat :=
  match l with
  | [] => none
  | [b] => digits 0 [b]
  | b :: r => if b = 48 then none else digits 0 (b :: r)
def readInt (l : List UInt8) : Option Int :=
  match l with
  | 45 :: r =>
    match readNat r with
    | some n => if n = 0 ∨ 9223372036854775808 < n then none else some (-(n : Int))
    | none => none
  | l =>
    match readNat l with
    | some n => if 9223372036854775807 < n then none else some (n : Int)
    | none => none
def hexV (b : UInt8) : Option Nat := if 48 ≤ b.toNat ∧ b.toNat ≤ 57 then some (b.toNat - 48) else if 97 ≤ b.toNat ∧ b.toNat ≤ 102 then some (b.toNat - 87) else none
def hexes : List UInt8 → Option (List UInt8)
  | [] => some []
  | [_] => none
  | a :: b :: r =>
    match hexV a, hexV b, hexes r with
    | some x, some y, some k => some (UInt8.ofNat (x * 16 + y) :: k)
    | _, _, _ => none
def readKey (l : List UInt8) : Option (List UInt8) :=
  match l with
  | 120 :: r => hexes r
  | _ => none
def readOp (ws : List (List UInt8)) : Option OpD :=
  match ws with
  | [a, b, k, v, x] =>
    match readInt a, readInt b, readKey k, readNat v, readNat x with
    | some a, some b, some k, some v, some x => some ⟨a, b, ⟨k.toArray⟩, v, x⟩
    | _, _, _, _, _ => none
  | _ => none
def readInts : List (List UInt8) → Option (List Int)
  | [] => some []
  | w :: r =>
    match readInt w, readInts r with
    | some x, some l => some (x :: l)
    | _, _ => none
/-! ### the parser -/
structure PS where
  scr : ScrD
  masked : Bool
  done : Bool
def addOp : List (List OpD) → OpD → List (List OpD)
  | [], _ => []
  | [t], o => [t ++ [o]]
  | t :: r, o => t :: addOp r o
/-- a line, divided into words; none: it is not permitted -/
def takeL (st : PS) (ws : List (List UInt8)) : Option PS :=
  if st.done then none
  else if ¬ st.masked then
    match ws with
    | [a, b] => if a = maskW then (match readNat b with | some v => some { st with scr := { st.scr with mask := v }, masked := true } | none => none) else none
    | _ => none
  else if ws.head? = some threadW then (if ws.length = 1 then some { st with scr := { st.scr with threads := st.scr.threads ++ [[]] } } else none)
  else if ws.head? = some picksW then
    match readInts ws.tail with
    | some l => some { st with scr := { st.scr with picks := l }, done := true }
    | none => none
  else
    match readOp ws with
    | some o => if st.scr.threads = [] then none else some { st with scr := { st.scr with threads := addOp st.scr.threads o } }
    | none => none
/-- the number of the first line that is not permitted, or the parser at the end -/
def takeAll (st : PS) : List (List UInt8) → Nat → PS ⊕ Nat
  | [], _ => .inl st
  | l :: r, n =>
    match takeL st (words l) with
    | some st' => takeAll st' r (n + 1)
    | none => .inr (n + 1)
def parseS (t : List UInt8) : ScrD × Int × Int :=
  if maxText < t.length then (ScrD.nil, 0, 3)
  else
    match takeAll ⟨ScrD.nil, false, false⟩ (linesOf t).1 0 with
    | .inr n => (ScrD.nil, n, 4)
    | .inl st =>
      if (linesOf t).2 ≠ [] ∨ st.done = false then (ScrD.nil, (linesOf t).1.length + 1, 4)
      else if checkS st.scr ≠ 0 then (ScrD.nil, 0, 3) else (st.scr, 0, 0)
end Go.Proofs.YtnoeiaicligmiaaDoor
