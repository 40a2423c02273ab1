/-
  The lexer of package lex as plain functions over lists of bytes: no Go, no memory. (What each computes; the walks show that the Go text computes just these.)
-/
import Derived.Lib.Case
import Derived.Lib.MapU
import Derived.Lib.ParseIntB
import Derived.Lib.IndexMore
namespace Go.Proofs.YtemobkeogooecaaDoor.Lx

abbrev Bytes := List UInt8

/-- A token: its kind, its text, its number. -/
structure Tok where
  kind : Bytes
  text : Bytes
  n : Int
deriving DecidableEq

def cWords : Bytes := [32, 65, 68, 68, 32, 65, 76, 84, 69, 82, 32, 65, 78, 68, 32, 65, 83, 32, 65, 83, 67, 32, 66, 79, 79, 76, 32, 66, 89, 32, 66, 89, 84, 69, 83, 32, 67, 65, 76, 76, 32, 67, 79, 76, 85, 77, 78, 32, 67, 79, 85, 78, 84, 32, 67, 82, 69, 65, 84, 69, 32, 68, 69, 76, 69, 84, 69, 32, 68, 69, 83, 67, 32, 68, 82, 79, 80, 32, 70, 65, 76, 83, 69, 32, 70, 82, 79, 77, 32, 71, 82, 79, 85, 80, 32, 73, 78, 68, 69, 88, 32, 73, 78, 83, 69, 82, 84, 32, 73, 78, 84, 32, 73, 78, 84, 79, 32, 73, 83, 32, 74, 79, 73, 78, 32, 75, 69, 89, 32, 76, 73, 77, 73, 84, 32, 77, 65, 88, 32, 77, 73, 78, 32, 78, 79, 84, 32, 78, 85, 76, 76, 32, 79, 70, 32, 79, 78, 32, 79, 82, 32, 79, 82, 68, 69, 82, 32, 80, 82, 73, 77, 65, 82, 89, 32, 82, 69, 78, 65, 77, 69, 32, 83, 69, 76, 69, 67, 84, 32, 83, 69, 84, 32, 83, 72, 79, 87, 32, 83, 85, 77, 32, 84, 65, 66, 76, 69, 32, 84, 69, 88, 84, 32, 84, 79, 32, 84, 82, 85, 69, 32, 85, 78, 73, 81, 85, 69, 32, 85, 80, 68, 65, 84, 69, 32, 86, 65, 76, 85, 69, 83, 32, 87, 72, 69, 82, 69, 32]
def cDigits : Bytes := [48, 49, 50, 51, 52, 53, 54, 55, 56, 57]
def cInner : Bytes := [97, 98, 99, 100, 101, 102, 103, 104, 105, 106, 107, 108, 109, 110, 111, 112, 113, 114, 115, 116, 117, 118, 119, 120, 121, 122, 65, 66, 67, 68, 69, 70, 71, 72, 73, 74, 75, 76, 77, 78, 79, 80, 81, 82, 83, 84, 85, 86, 87, 88, 89, 90, 48, 49, 50, 51, 52, 53, 54, 55, 56, 57, 95]
def cBlanks : Bytes := [32, 9, 10, 13]
def cHex : Bytes := [48, 49, 50, 51, 52, 53, 54, 55, 56, 57, 97, 98, 99, 100, 101, 102]
def cSigns : Bytes := [40, 41, 44, 46, 59, 42, 43, 45, 47, 37, 61, 60, 62]
def kWord : Bytes := [119, 111, 114, 100]
def kName : Bytes := [110, 97, 109, 101]
def kInt : Bytes := [105, 110, 116]
def kBytes : Bytes := [98, 121, 116, 101, 115]
def kText : Bytes := [116, 101, 120, 116]
def kSign : Bytes := [115, 105, 103, 110]

/-- The bytes of a set that a text begins with. -/
def runOf (s set : Bytes) : Bytes := s.takeWhile (set.contains ·)

/-- Two digits a byte; the digits must be small ones. -/
def pairs : Bytes → Bytes
  | a :: b :: r => UInt8.ofNat ((cHex.idxOf a * 16 + cHex.idxOf b) % 256) :: pairs r
  | _ => []
def raw (t : Bytes) : Option Bytes := if t.length % 2 = 0 ∧ t.all (cHex.contains ·) = true then some (pairs t) else none

def upToQuote (s : Bytes) : Bytes := s.takeWhile (· != 39)

/-- From behind x and a quote on. -/
def bytesTok (s : Bytes) : Option (Option Tok × Bytes) :=
  let t := upToQuote (s.drop 2)
  if (s.drop 2).contains 39 = true then
    match raw (Lib.toLowerD t) with
    | some b => if b.length ≤ 1000 then some (some ⟨kBytes, b, 0⟩, s.drop (t.length + 3)) else none
    | none => none
  else none

def numberTok (s : Bytes) : Option (Option Tok × Bytes) :=
  let t := runOf s cInner
  match Lib.parseIntB 64 t with
  | .ok v => if t.all (cDigits.contains ·) = true then some (some ⟨kInt, [], v⟩, s.drop t.length) else none
  | _ => none

def wordTok (s : Bytes) : Option (Option Tok × Bytes) :=
  let t := runOf s cInner
  let u := Lib.toUpperA t
  if Lib.contains cWords (32 :: (u ++ [32])) = true then some (some ⟨kWord, u, 0⟩, s.drop t.length)
  else if t.length ≤ 40 then some (some ⟨kName, Lib.toLowerA u, 0⟩, s.drop t.length)
  else none

/-- From behind a quote on: what stands there up to the quote that ends it, each two quotes being one; and what is left. -/
def quoted : Bytes → Option (Bytes × Bytes)
  | [] => none
  | c :: r =>
    if c = 39 then
      match r with
      | [] => some ([], [])
      | d :: r' => if d = 39 then (quoted r').map fun x => (39 :: x.1, x.2) else some ([], d :: r')
    else (quoted r).map fun x => (c :: x.1, x.2)

def textTok (s : Bytes) : Option (Option Tok × Bytes) :=
  match quoted (s.drop 1) with
  | some (b, r) => if b.length ≤ 1000 then some (some ⟨kText, b, 0⟩, r) else none
  | none => none

def oneSign (s : Bytes) : Option (Option Tok × Bytes) :=
  match s with
  | [] => none
  | c :: r => if cSigns.contains c = true then some (some ⟨kSign, [c], 0⟩, r) else none

def signTok (s : Bytes) : Option (Option Tok × Bytes) :=
  match s with
  | a :: b :: r =>
    if a = 33 ∧ b = 61 then some (some ⟨kSign, [60, 62], 0⟩, r)
    else if (a = 60 ∧ b = 62) ∨ (a = 60 ∧ b = 61) ∨ (a = 62 ∧ b = 61) then some (some ⟨kSign, [a, b], 0⟩, r)
    else oneSign s
  | _ => oneSign s

/-- What is behind the line. -/
def afterLine (s : Bytes) : Bytes := (s.dropWhile (· != 10)).drop 1

/-- One step of the lexer: a token, or none for what stands between; and what is left. -/
def step (s : Bytes) : Option (Option Tok × Bytes) :=
  match s with
  | [] => none
  | c :: r =>
    if cBlanks.contains c = true then some (none, s.dropWhile (cBlanks.contains ·))
    else if c = 45 ∧ r.head? = some 45 then some (none, afterLine s)
    else if (c = 120 ∨ c = 88) ∧ r.head? = some 39 then bytesTok s
    else if cDigits.contains c = true then numberTok s
    else if cInner.contains c = true then wordTok s
    else if c = 39 then textTok s
    else signTok s

/-- All steps. -/
def run : Nat → Bytes → Option (List Tok)
  | _, [] => some []
  | 0, _ :: _ => none
  | k + 1, c :: s =>
    match step (c :: s) with
    | none => none
    | some (t, r) => (run k r).map (t.toList ++ ·)

def lex (s : Bytes) : Option (List Tok) := if s.length ≤ 20000 then run s.length s else none
end Go.Proofs.YtemobkeogooecaaDoor.Lx
