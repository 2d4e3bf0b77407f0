/- What the lexer does, on lists of bytes: plain definitions and laws; no program. Places are counted from where the reading begins. -/
import Derived.Test.YthdigbkcffihkaaGreatDoorSmTextMath
import Derived.Lib.Bytealg
namespace Go.Proofs.YthdigbkcffihkaaGreatDoor
namespace Lx
abbrev Bytes := List UInt8
def letter (c : UInt8) : Bool := (decide (97 ≤ c.toNat) && decide (c.toNat ≤ 122)) || (decide (65 ≤ c.toNat) && decide (c.toNat ≤ 90))
def digit (c : UInt8) : Bool := decide (48 ≤ c.toNat) && decide (c.toNat ≤ 57)
def alnum (c : UInt8) : Bool := letter c || digit c
def opsL : Bytes := [43, 45, 42, 47, 92, 126, 60, 62, 61, 38, 44, 64, 37, 63]
def blanksL : Bytes := [32, 9, 10, 13]
def singleL : Bytes := [94, 46, 59, 40, 41, 91, 93]
def opc (c : UInt8) : Bool := c != 0 && opsL.contains c
def blank (c : UInt8) : Bool := blanksL.contains c
def hd (r : Bytes) (n : Nat) : UInt8 := r.getD n 0
/-- A token: its kind, its word, its number, its place. -/
structure Tok where
  kind : Nat
  word : Bytes
  num : Int
  at_ : Nat
/-- An error: its place, its number. -/
abbrev Err := Nat × Int

/-- The length of a name. -/
def nameL (r : Bytes) : Nat := if letter (hd r 0) then (r.takeWhile alnum).length else 0
/-- A colon that makes a keyword? -/
def colonB (r : Bytes) : Bool := hd r 0 == 58 && hd r 1 != 61
/-- Keywords, one behind the other: how long they are. -/
def kwF : Nat → Bytes → Nat
  | 0, _ => 0
  | f + 1, r =>
    if nameL r = 0 then 0
    else if colonB (r.drop (nameL r)) then nameL r + 1 + kwF f (r.drop (nameL r + 1)) else 0
def kwL (r : Bytes) : Nat := kwF (r.length + 1) r
/-- Behind blanks and notes; or where a note begins that doesn't end. -/
def sk : Option Nat → Nat → Bytes → Except Nat Nat
  | none, p, [] => .ok p
  | some st, _, [] => .error st
  | none, p, c :: t => if blank c then sk none (p + 1) t else if c = 34 then sk (some p) (p + 1) t else .ok p
  | some st, p, c :: t => if c = 34 then sk none (p + 1) t else sk (some st) (p + 1) t
/-- What stands behind a quote, up to the one that ends it, and how many bytes that took. -/
def txt : Bytes → Option (Bytes × Nat)
  | [] => none
  | c :: t =>
    if c = 39 then
      match t with
      | d :: t' => if d = 39 then (txt t').map fun x => (39 :: x.1, x.2 + 2) else some ([], 1)
      | [] => some ([], 1)
    else (txt t).map fun x => (c :: x.1, x.2 + 1)
def operL (r : Bytes) : Nat := if hd r 0 = 124 then 1 else if opc (hd r 0) then (if opc (hd r 1) && hd r 1 != 45 then 2 else 1) else 0
/-- How long what stands behind a # is, that isn't quoted. -/
def symL (r : Bytes) : Nat := if letter (hd r 0) then (if kwL r = 0 then nameL r else kwL r) else operL r
/-- How long a name or keyword is. -/
def wordL (r : Bytes) : Nat := if colonB (r.drop (nameL r)) then nameL r + 1 else nameL r
/-- Behind a #: a token, and how many bytes it took; all places count from the # on. -/
def symR (r : Bytes) : Except Err (Tok × Nat) :=
  if hd r 0 = 40 then .ok (⟨15, [], 0, 0⟩, 2)
  else if hd r 0 = 39 then
    match txt (r.drop 1) with
    | none => .error (0, 4)
    | some (w, n) => if 4096 < w.length then .error (0, 2) else if 64 < w.length then .error (0, 2) else .ok (⟨5, w, 0, 0⟩, n + 2)
  else
    if symL r = 0 then .error (0, 3) else if 64 < symL r then .error (0, 2) else .ok (⟨5, r.take (symL r), 0, 0⟩, symL r + 1)
def sgl (c : UInt8) : Option Nat := singleL.idxOf? c
/-- The token that begins just here, with a byte. -/
def tokC (c : UInt8) (t : Bytes) : Except Err (Tok × Nat) :=
  if letter c then
    if 64 < wordL (c :: t) then .error (0, 2) else .ok (⟨if colonB ((c :: t).drop (nameL (c :: t))) then 2 else 1, (c :: t).take (wordL (c :: t)), 0, 0⟩, wordL (c :: t))
  else if digit c then
    if Sm.pe ((c :: t).takeWhile digit) = 0 then .ok (⟨3, [], Sm.pv ((c :: t).takeWhile digit), 0⟩, ((c :: t).takeWhile digit).length) else .error (0, Sm.pe ((c :: t).takeWhile digit))
  else if c = 36 then (if t = [] then .error (0, 4) else .ok (⟨3, [], ((hd t 0).toNat : Int), 0⟩, 2))
  else if c = 39 then
    match txt t with
    | none => .error (0, 4)
    | some (w, n) => if 4096 < w.length then .error (0, 2) else .ok (⟨4, w, 0, 0⟩, n + 1)
  else if c = 35 then symR t
  else if c = 58 then (if hd t 0 = 61 then .ok (⟨7, [], 0, 0⟩, 2) else .ok (⟨16, [], 0, 0⟩, 1))
  else match sgl c with
    | some i => .ok (⟨8 + i, [], 0, 0⟩, 1)
    | none => if operL (c :: t) = 0 then .error (0, 3) else .ok (⟨6, (c :: t).take (operL (c :: t)), 0, 0⟩, operL (c :: t))
def tokR : Bytes → Except Err (Tok × Nat)
  | [] => .ok (⟨0, [], 0, 0⟩, 0)
  | c :: t => tokC c t
/-- The next token from here on, behind blanks and notes. -/
def nextR (r : Bytes) : Except Err (Tok × Nat) :=
  match sk none 0 r with
  | .error st => .error (st, 4)
  | .ok k =>
    match tokR (r.drop k) with
    | .error (p, e) => .error (k + p, e)
    | .ok (t, n) => .ok ({ t with at_ := k + t.at_ }, k + n)
/-- All tokens from here on; the places count from 'base' on. -/
def allF : Nat → Nat → Bytes → Except Err (List Tok)
  | 0, _, _ => .ok []
  | f + 1, base, r =>
    match nextR r with
    | .error (p, e) => .error (base + p, e)
    | .ok (t, n) =>
      if t.kind = 0 then .ok [{ t with at_ := base + t.at_ }]
      else match allF f (base + n) (r.drop n) with
        | .error x => .error x
        | .ok l => .ok ({ t with at_ := base + t.at_ } :: l)
def allR (r : Bytes) : Except Err (List Tok) := allF (r.length + 1) 0 r
/-- How many arguments a message of this name has; -1: it is none. -/
def arityL (w : Bytes) : Int :=
  if w = [] then -1 else if 64 < w.length then -1 else if kwL w = w.length then (Lib.countByte w 58) else if nameL w = w.length then 0 else if operL w = w.length then 1 else -1
end Lx
end Go.Proofs.YthdigbkcffihkaaGreatDoor
