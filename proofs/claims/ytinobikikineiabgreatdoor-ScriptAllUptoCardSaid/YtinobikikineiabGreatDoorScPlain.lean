/- Plain functions on lists of bytes: scripts as chapter 20 defines them. No program is in sight. No conditions. -/
import Derived.Test.YtinobikikineiabGreatDoorPlainDigits
import Derived.Lib.SlTrimSet
import Derived.Lib.ItoaNum
import Derived.Lib.Join
namespace Go.Proofs.YtinobikikineiabGreatDoor.Sc

abbrev blank (c : UInt8) : Bool := Lx.isBlank c
/-- A text without the blanks at its ends. -/
def trim (l : List UInt8) : List UInt8 := Lib.trimS l [32, 9, 13]
def headW (l : List UInt8) : List UInt8 := l.takeWhile fun c => !blank c
def tailW (l : List UInt8) : List UInt8 := l.dropWhile fun c => !blank c
/-- A list cut at each blank. -/
def cutsB : List UInt8 → List (List UInt8)
  | [] => [[]]
  | c :: t => if blank c then [] :: cutsB t else
    match cutsB t with
    | [] => [[c]]
    | p :: ps => (c :: p) :: ps
/-- The pieces between blanks. -/
def fields (l : List UInt8) : List (List UInt8) := (cutsB l).filter fun p => !p.isEmpty

/-- What a word wants: 0 unknown, 1 nothing, 2 a text, 3 a kind, 4 two numbers, 5 three. -/
def wants (w : List UInt8) : Nat :=
  if w = [100, 101, 102] ∨ w = [108, 111, 97, 100] ∨ w = [115, 116, 101, 112, 115] ∨ w = [110, 111, 114, 109, 97, 108] ∨ w = [104, 111, 108, 100, 115] then 2
  else if w = [113, 117, 111, 116, 105, 101, 110, 116] then 3
  else if w = [114, 97, 119] ∨ w = [101, 100, 103, 101] then 5
  else if w = [99, 111, 109, 112, 97, 114, 101] ∨ w = [114, 97, 110, 107] ∨ w = [98, 101, 108, 111, 119] then 4
  else if w = [115, 116, 114, 111, 110, 103] ∨ w = [98, 114, 97, 110, 99, 104, 105, 110, 103] ∨ w = [119, 101, 97, 107] ∨ w = [114, 111, 117, 110, 100, 115] ∨ w = [115, 105, 109, 117, 108, 97, 116, 105, 111, 110] ∨ w = [99, 111, 108, 108, 97, 112, 115, 101] ∨ w = [115, 104, 111, 119] ∨ w = [114, 117, 110] then 1
  else 0
def many (n : Nat) : Nat := if n = 5 then 3 else if n = 4 then 2 else 0
def strongL : List UInt8 := [115, 116, 114, 111, 110, 103]
def branchingL : List UInt8 := [98, 114, 97, 110, 99, 104, 105, 110, 103]

structure Cmd where
  word : List UInt8
  text : List UInt8
  nums : List Int
deriving DecidableEq

def isText (want : Nat) (s : List UInt8) : Bool :=
  if want = 2 then !s.isEmpty && decide (s = trim s) && !s.contains 10
  else if want = 3 then decide (s = strongL) || decide (s = branchingL)
  else s.isEmpty
def areNumbers (want : Nat) (l : List Int) : Bool := decide (l.length = many want) && l.all fun n => decide (0 ≤ n) && decide (n ≤ 1073741824)
def isCommand (c : Cmd) : Bool := decide (wants c.word ≠ 0) && isText (wants c.word) c.text && areNumbers (wants c.word) c.nums

/-- Numbers in words; none: one of them is none. -/
def numbers : List (List UInt8) → Option (List Int)
  | [] => some []
  | x :: xs => if Lx.numCode x = 0 then (numbers xs).map fun r => (Lx.numVal x : Int) :: r else none
/-- A line that begins with no blank and ends with none, as a command. -/
def command (l : List UInt8) : Option Cmd :=
  let w := headW l
  let rest := trim (tailW l)
  if many (wants w) = 0 then (if isCommand ⟨w, rest, []⟩ then some ⟨w, rest, []⟩ else none)
  else match numbers (fields rest) with
    | none => none
    | some ns => if isCommand ⟨w, [], ns⟩ then some ⟨w, [], ns⟩ else none

/-- A line that says nothing. -/
def idle (l : List UInt8) : Bool := l.isEmpty || l.head? == some 35
def more (c : Cmd) (r : Except Lx.Bad (List Cmd)) : Except Lx.Bad (List Cmd) :=
  match r with
  | .error b => .error b
  | .ok l => .ok (c :: l)
def from' (no count : Nat) : List (List UInt8) → Except Lx.Bad (List Cmd)
  | [] => .ok []
  | p :: ps => if idle (trim p) then from' (no + 1) count ps else
    match command (trim p) with
    | none => .error (19, no, 0)
    | some c => if 1000 ≤ count then .error (2, no, 0) else more c (from' (no + 1) (count + 1) ps)
def size (l : List UInt8) : Nat := if !l.isEmpty && l.getLast? != some 10 then l.length + 1 else l.length
def parse (l : List UInt8) : Except Lx.Bad (List Cmd) := if 65536 < size l then .error (2, 0, 0) else from' 1 0 (Lx.cuts l)

/-- A number in decimal digits. -/
def digits (n : Int) : List UInt8 := Lib.itoa n
def sep (l : List (List UInt8)) : List UInt8 := Lib.join l [32]
def lineOf (c : Cmd) : List UInt8 := sep (c.word :: ((if c.text.isEmpty then [] else [c.text]) ++ c.nums.map digits))
def print (l : List Cmd) : Except Nat (List UInt8) :=
  if 1000 < l.length then .error 2
  else if l.all isCommand then (if 65536 < (l.map fun c => (lineOf c).length + 1).sum then .error 2 else .ok (l.flatMap fun c => lineOf c ++ [10]))
  else .error 19
end Go.Proofs.YtinobikikineiabGreatDoor.Sc
