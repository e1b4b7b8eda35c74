/- Plain functions on lists of bytes: words of a text as chapter 1 defines them, and laws about them. No program is in sight. No conditions. -/
namespace Go.Proofs.YtinobikikineiabGreatDoor.Lx

def isSmall (c : UInt8) : Bool := decide (97 ≤ c.toNat) && decide (c.toNat ≤ 122)
def isGreat (c : UInt8) : Bool := decide (65 ≤ c.toNat) && decide (c.toNat ≤ 90)
def isDigit (c : UInt8) : Bool := decide (48 ≤ c.toNat) && decide (c.toNat ≤ 57)
def inRun (c : UInt8) : Bool := isSmall c || isGreat c || isDigit c || c == 95
def marks : List UInt8 := [61, 43, 124, 46, 92, 123, 125, 91, 93, 40, 41, 44, 47, 39, 60, 62, 126, 38, 45, 58, 59]
def isMark (c : UInt8) : Bool := marks.contains c
def isBlank (c : UInt8) : Bool := c == 32 || c == 9 || c == 13

/-- The run that a list begins with. -/
def run (l : List UInt8) : List UInt8 := l.takeWhile inRun

def big : Nat := 1073741824
def digVal (l : List UInt8) : Nat := l.foldl (fun n c => 10 * n + (c.toNat - 48)) 0
def numOk (l : List UInt8) : Bool := !l.isEmpty && l.all isDigit && (decide (l.length ≤ 1) || l.head? != some 48)
/-- 0: a number; 4: none; 2: too great. -/
def numCode (l : List UInt8) : Nat := if numOk l then (if digVal l ≤ big then 0 else 2) else 4
def numVal (l : List UInt8) : Nat := if numCode l = 0 then digVal l else 0

structure Tok where
  kind : Nat
  text : List UInt8
  line : Nat
  col : Nat
deriving DecidableEq, Repr

/-- The word that a list begins with: its kind and its bytes; or the error's code. -/
def word (l : List UInt8) : Except Nat (Nat × List UInt8) :=
  match l with
  | [] => .error 4
  | c :: t =>
    if isDigit c then (if numCode (run (c :: t)) = 0 then .ok (3, run (c :: t)) else .error (numCode (run (c :: t))))
    else if isSmall c || isGreat c then (if (run (c :: t)).length ≤ 32 then .ok (2, run (c :: t)) else .error 2)
    else if isMark c then .ok (4, [c]) else .error 4

/-- An error: its code, line and column. -/
abbrev Bad := Nat × Nat × Nat

/-- The words of the rest of a line, behind 'col' bytes of it. -/
def lineFrom (no : Nat) : Nat → Nat → List UInt8 → Except Bad (List Tok)
  | 0, _, _ => .ok []
  | _ + 1, _, [] => .ok []
  | f + 1, col, c :: t =>
    if isBlank c then lineFrom no f (col + 1) t
    else if c == 35 then .ok []
    else match word (c :: t) with
      | .error e => .error (e, no, col + 1)
      | .ok (k, w) => match lineFrom no f (col + w.length) ((c :: t).drop w.length) with
        | .error b => .error b
        | .ok r => .ok (⟨k, w, no, col + 1⟩ :: r)

def endTok (no len : Nat) : Tok := ⟨1, [10], no, len + 1⟩
def closeLine (no len : Nat) (r : List Tok) : List Tok := if r.isEmpty then [] else r ++ [endTok no len]
def lineToks (no : Nat) (l : List UInt8) : Except Bad (List Tok) :=
  match lineFrom no l.length 0 l with
  | .error b => .error b
  | .ok r => .ok (closeLine no l.length r)

/-- A list cut at each 10: one piece more than there are 10s. -/
def cuts : List UInt8 → List (List UInt8)
  | [] => [[]]
  | c :: t => if c == 10 then [] :: cuts t else
    match cuts t with
    | [] => [[c]]
    | p :: ps => (c :: p) :: ps

def scanLines : Nat → List (List UInt8) → Except Bad (List Tok)
  | _, [] => .ok []
  | no, p :: ps => match lineToks no p with
    | .error b => .error b
    | .ok r => match scanLines (no + 1) ps with
      | .error b => .error b
      | .ok rs => .ok (r ++ rs)

/-- Scan: code 2 without a place where the text is too long. -/
def scan (l : List UInt8) : Except Bad (List Tok) := if l.length > 65536 then .error (2, 0, 0) else scanLines 1 (cuts l)

end Go.Proofs.YtinobikikineiabGreatDoor.Lx
