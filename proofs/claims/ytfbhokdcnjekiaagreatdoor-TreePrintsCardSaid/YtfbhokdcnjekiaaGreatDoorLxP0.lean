/- What the lexer does, on lists of bytes: plain definitions and laws; no program. Places are counted from where the reading begins. · The lexer's laws: what a blank behind a text does to its tokens. No program. · Two texts with a blank between have the tokens of the one, and of the other: on lists of bytes. No program. · Blanks and notes, a round at a time: plain law. · No error of the lexer has number 0. No program. -/
import Derived.Test.YtfbhokdcnjekiaaGreatDoorSmN
import Derived.Lib.Bytealg
namespace Go.Proofs.YtfbhokdcnjekiaaGreatDoor
namespace Lx
abbrev Bytes := List UInt8
def letter (c : UInt8) : Bool := (decide (97 ≤ c.toNat) && decide (c.toNat ≤ 122)) || (decide (65 ≤ c.toNat) && decide (c.toNat ≤ 90))
def digit (c : UInt8) : Bool := decide (48 ≤ c.toNat) && decide (c.toNat ≤ 57)
def alnum (c : UInt8) : Bool := letter c || digit c
def opsL : Bytes := [43, 45, 42, 47, 92, 126, 60, 62, 61, 38, 44, 64, 37, 63]
def blanksL : Bytes := [32, 9, 10, 13]
def singleL : Bytes := [94, 46, 59, 40, 41, 91, 93]
def opc (c : UInt8) : Bool := c != 0 && opsL.contains c
def blank (c : UInt8) : Bool := blanksL.contains c
def hd (r : Bytes) (n : Nat) : UInt8 := r.getD n 0
/-- A token: its kind, its word, its number, its place. -/
structure Tok where
 kind : Nat
 word : Bytes
 num : Int
 at_ : Nat
/-- An error: its place, its number. -/
abbrev Err := Nat × Int

/-- The length of a name. -/
def nameL (r : Bytes) : Nat := if letter (hd r 0) then (r.takeWhile alnum).length else 0
/-- A colon that makes a keyword? -/
def colonB (r : Bytes) : Bool := hd r 0 == 58 && hd r 1 != 61
/-- Keywords, one behind the other: how long they are. -/
def kwF : Nat → Bytes → Nat
 | 0, _ => 0
 | f + 1, r =>
  if nameL r = 0 then 0
  else if colonB (r.drop (nameL r)) then nameL r + 1 + kwF f (r.drop (nameL r + 1)) else 0
def kwL (r : Bytes) : Nat := kwF (r.length + 1) r
/-- Behind blanks and notes; or where a note begins that doesn't end. -/
def sk : Option Nat → Nat → Bytes → Except Nat Nat
 | none, p, [] => .ok p
 | some st, _, [] => .error st
 | none, p, c :: t => if blank c then sk none (p + 1) t else if c = 34 then sk (some p) (p + 1) t else .ok p
 | some st, p, c :: t => if c = 34 then sk none (p + 1) t else sk (some st) (p + 1) t
/-- What stands behind a quote, up to the one that ends it, and how many bytes that took. -/
def txt : Bytes → Option (Bytes × Nat)
 | [] => none
 | c :: t =>
  if c = 39 then
   match t with
   | d :: t' => if d = 39 then (txt t').map fun x => (39 :: x.1, x.2 + 2) else some ([], 1)
   | [] => some ([], 1)
  else (txt t).map fun x => (c :: x.1, x.2 + 1)
def operL (r : Bytes) : Nat := if hd r 0 = 124 then 1 else if opc (hd r 0) then (if opc (hd r 1) && hd r 1 != 45 then 2 else 1) else 0
/-- How long what stands behind a # is, that isn't quoted. -/
def symL (r : Bytes) : Nat := if letter (hd r 0) then (if kwL r = 0 then nameL r else kwL r) else operL r
/-- How long a name or keyword is. -/
def wordL (r : Bytes) : Nat := if colonB (r.drop (nameL r)) then nameL r + 1 else nameL r
/-- Behind a #: a token, and how many bytes it took; all places count from the # on. -/
def symR (r : Bytes) : Except Err (Tok × Nat) :=
 if hd r 0 = 40 then .ok (⟨15, [], 0, 0⟩, 2)
 else if hd r 0 = 39 then
  match txt (r.drop 1) with
  | none => .error (0, 4)
  | some (w, n) => if 4096 < w.length then .error (0, 2) else if 64 < w.length then .error (0, 2) else .ok (⟨5, w, 0, 0⟩, n + 2)
 else
  if symL r = 0 then .error (0, 3) else if 64 < symL r then .error (0, 2) else .ok (⟨5, r.take (symL r), 0, 0⟩, symL r + 1)
def sgl (c : UInt8) : Option Nat := singleL.idxOf? c
/-- The token that begins just here, with a byte. -/
def tokC (c : UInt8) (t : Bytes) : Except Err (Tok × Nat) :=
 if letter c then
  if 64 < wordL (c :: t) then .error (0, 2) else .ok (⟨if colonB ((c :: t).drop (nameL (c :: t))) then 2 else 1, (c :: t).take (wordL (c :: t)), 0, 0⟩, wordL (c :: t))
 else if digit c then
  if Sm.pe ((c :: t).takeWhile digit) = 0 then .ok (⟨3, [], Sm.pv ((c :: t).takeWhile digit), 0⟩, ((c :: t).takeWhile digit).length) else .error (0, Sm.pe ((c :: t).takeWhile digit))
 else if c = 36 then (if t = [] then .error (0, 4) else .ok (⟨3, [], ((hd t 0).toNat : Int), 0⟩, 2))
 else if c = 39 then
  match txt t with
  | none => .error (0, 4)
  | some (w, n) => if 4096 < w.length then .error (0, 2) else .ok (⟨4, w, 0, 0⟩, n + 1)
 else if c = 35 then symR t
 else if c = 58 then (if hd t 0 = 61 then .ok (⟨7, [], 0, 0⟩, 2) else .ok (⟨16, [], 0, 0⟩, 1))
 else match sgl c with
  | some i => .ok (⟨8 + i, [], 0, 0⟩, 1)
  | none => if operL (c :: t) = 0 then .error (0, 3) else .ok (⟨6, (c :: t).take (operL (c :: t)), 0, 0⟩, operL (c :: t))
def tokR : Bytes → Except Err (Tok × Nat)
 | [] => .ok (⟨0, [], 0, 0⟩, 0)
 | c :: t => tokC c t
/-- The next token from here on, behind blanks and notes. -/
def nextR (r : Bytes) : Except Err (Tok × Nat) :=
 match sk none 0 r with
 | .error st => .error (st, 4)
 | .ok k =>
  match tokR (r.drop k) with
  | .error (p, e) => .error (k + p, e)
  | .ok (t, n) => .ok ({ t with at_ := k + t.at_ }, k + n)
/-- How many arguments a message of this name has; -1: it is none. -/
def arityL (w : Bytes) : Int :=
 if w = [] then -1 else if 64 < w.length then -1 else if kwL w = w.length then (Lib.countByte w 58) else if nameL w = w.length then 0 else if operL w = w.length then 1 else -1
end Lx
end Go.Proofs.YtfbhokdcnjekiaaGreatDoor
namespace Go.Proofs.YtfbhokdcnjekiaaGreatDoor
namespace Lx
theorem hd_out (r : Bytes) (n : Nat) (h : r.length ≤ n) : hd r n = 0 := by unfold hd; rw [List.getD_eq_getElem?_getD, List.getElem?_eq_none h]; rfl
theorem nameL_le (r : Bytes) : nameL r ≤ r.length := by
 unfold nameL; split
 · exact List.Sublist.length_le (List.takeWhile_sublist _)
 · omega
theorem colon_pos (r : Bytes) (h : colonB r = true) : 1 ≤ r.length := by
 cases r with
 | nil => exact absurd h (by decide)
 | cons => simp
theorem kwF_le : ∀ (f : Nat) (r : Bytes), kwF f r ≤ r.length := by
 intro f
 induction f with
 | zero => intro r; simp [kwF]
 | succ f ih =>
  intro r
  simp only [kwF]
  split
  · omega
  · split
    · rename_i hc
      have := colon_pos _ hc
      have h2 := ih (r.drop (nameL r + 1))
      rw [List.length_drop] at this h2
      omega
    · omega
theorem kwL_le (r : Bytes) : kwL r ≤ r.length := kwF_le _ r
theorem operL_le (r : Bytes) : operL r ≤ r.length := by
 unfold operL
 split
 · rename_i h
   cases r with
   | nil => exact absurd h (by decide)
   | cons => simp
 · split
   · rename_i h1 h2
     cases r with
     | nil => exact absurd h2 (by decide)
     | cons c t =>
      split
      · rename_i h3
        cases t with
        | nil => exact absurd h3 (by simp [hd]; decide)
        | cons => simp
      · simp
   · omega
/-! ### a token stays what it is where a blank stands behind it -/
theorem symL_le (r : Bytes) : symL r ≤ r.length := by
 unfold symL
 split
 · split
   · exact nameL_le r
   · exact kwL_le r
 · exact operL_le r
/-! ### blanks and notes -/
theorem sk_shift (r : Bytes) : ∀ (m : Option Nat) (p k : Nat), sk (m.map (· + k)) (p + k) r = match sk m p r with | .ok x => .ok (x + k) | .error x => .error (x + k) := by
 induction r with
 | nil => intro m p k; cases m <;> rfl
 | cons c t ih =>
  intro m p k
  cases m with
  | none =>
   simp only [Option.map_none, sk]
   split
   · have := ih none (p + 1) k
     rw [show p + 1 + k = p + k + 1 by omega] at this
     exact this
   · split
     · have := ih (some p) (p + 1) k
       rw [show p + 1 + k = p + k + 1 by omega] at this
       exact this
     · rfl
  | some st =>
   simp only [Option.map_some, sk]
   split
   · have := ih none (p + 1) k
     rw [show p + 1 + k = p + k + 1 by omega] at this
     exact this
   · have := ih (some st) (p + 1) k
     rw [show p + 1 + k = p + k + 1 by omega] at this
     exact this
end Lx
end Go.Proofs.YtfbhokdcnjekiaaGreatDoor
namespace Go.Proofs.YtfbhokdcnjekiaaGreatDoor
namespace Lx
/-- A result, so many bytes further on. -/
def far (k : Nat) : Except Err (Tok × Nat) → Except Err (Tok × Nat)
 | .error (p, e) => .error (k + p, e)
 | .ok (t, n) => .ok ({ t with at_ := k + t.at_ }, k + n)
end Lx
end Go.Proofs.YtfbhokdcnjekiaaGreatDoor
namespace Go.Proofs.YtfbhokdcnjekiaaGreatDoor
namespace Lx
theorem idx_at (c : UInt8) : ∀ (l : Bytes), Lib.indexByte l c = -1 ∨ (0 ≤ Lib.indexByte l c ∧ (Lib.indexByte l c).toNat < l.length)
 | [] => Or.inl rfl
 | b :: l => by
  have ih := idx_at c l
  simp only [Lib.indexByte, List.length_cons]
  split
  · right; constructor
    · omega
    · simp
  · split
    · exact Or.inl rfl
    · rename_i h1 h2
      rcases ih with h | h
      · rw [h] at h2; exact absurd rfl h2
      · right; omega
/-- In a note: to the quote that ends it. -/
theorem sk_note (st : Nat) : ∀ (r : Bytes) (p : Nat), sk (some st) p r = if Lib.indexByte r 34 = -1 then .error st else sk none (p + (Lib.indexByte r 34).toNat + 1) (r.drop ((Lib.indexByte r 34).toNat + 1))
 | [], p => by simp [sk, Lib.indexByte]
 | c :: t, p => by
  by_cases hc : c = 34
  · subst hc
    have hI : Lib.indexByte (34 :: t) 34 = 0 := by simp [Lib.indexByte]
    rw [hI]; simp [sk]
  · have hb : (c == 34) = false := by simpa using hc
    have hs : sk (some st) p (c :: t) = sk (some st) (p + 1) t := by simp only [sk]; rw [if_neg hc]
    rw [hs, sk_note st t (p + 1)]
    rcases idx_at 34 t with h | ⟨h, h'⟩
    · have hI : Lib.indexByte (c :: t) 34 = -1 := by simp only [Lib.indexByte]; rw [hb, h]; rfl
      rw [hI, h]; rfl
    · have h1 : ¬ (Lib.indexByte t 34 == -1) = true := by rw [beq_iff_eq]; omega
      have hI : Lib.indexByte (c :: t) 34 = Lib.indexByte t 34 + 1 := by simp only [Lib.indexByte]; rw [hb, if_neg h1]; rfl
      rw [hI, if_neg (by omega), if_neg (by omega)]
      have h2 : (Lib.indexByte t 34 + 1).toNat = (Lib.indexByte t 34).toNat + 1 := by omega
      rw [h2, List.drop_succ_cons]
      congr 1; omega
theorem sk_blanks : ∀ (r : Bytes) (p : Nat), sk none p r = sk none (p + (r.takeWhile blank).length) (r.drop (r.takeWhile blank).length)
 | [], p => by simp
 | c :: t, p => by
  cases hc : blank c
  · simp [hc]
  · have := sk_blanks t (p + 1)
    simp only [List.takeWhile_cons, hc, if_true, List.length_cons, List.drop_succ_cons]
    rw [show p + ((t.takeWhile blank).length + 1) = p + 1 + (t.takeWhile blank).length by omega, ← this]
    simp [sk, hc]
theorem hd_tw (r : Bytes) : blank (hd (r.drop (r.takeWhile blank).length) 0) = false := by
 induction r with
 | nil => rfl
 | cons c t ih =>
  cases hc : blank c
  · simp [hc, hd]
  · simpa [List.takeWhile_cons, hc] using ih
/-- A round of skip. -/
theorem sk_round (r : Bytes) (p m : Nat) (hm : (r.takeWhile blank).length = m) :
  (hd (r.drop m) 0 ≠ 34 → sk none p r = .ok (p + m)) ∧
  (hd (r.drop m) 0 = 34 → Lib.indexByte (r.drop (m + 1)) 34 = -1 → sk none p r = .error (p + m)) ∧
  (hd (r.drop m) 0 = 34 → Lib.indexByte (r.drop (m + 1)) 34 ≠ -1 → sk none p r = sk none (p + m + (Lib.indexByte (r.drop (m + 1)) 34).toNat + 2) (r.drop (m + (Lib.indexByte (r.drop (m + 1)) 34).toNat + 2))) := by
 have hb := sk_blanks r p
 have hh := hd_tw r
 rw [hm] at hb hh
 have hd1 : r.drop (m + 1) = (r.drop m).drop 1 := by rw [List.drop_drop]
 cases hl : r.drop m with
 | nil =>
  rw [hl] at hb hd1
  refine ⟨fun _ => by rw [hb]; rfl, fun h => absurd h (by decide), fun h => absurd h (by decide)⟩
 | cons c t =>
  rw [hl] at hb hd1 hh
  have hc : hd (c :: t) 0 = c := rfl
  rw [hc] at hh ⊢
  simp only [List.drop_succ_cons, List.drop_zero] at hd1
  rw [hd1]
  refine ⟨fun h => ?_, fun h h2 => ?_, fun h h2 => ?_⟩
  · rw [hb]; simp only [sk, hh]; simp [h]
  · rw [hb]; simp only [sk, hh]; rw [if_pos h, if_neg (by decide), sk_note, if_pos h2]
  · rw [hb]; simp only [sk, hh]; rw [if_pos h, if_neg (by decide), sk_note, if_neg h2]
    have : r.drop (m + (Lib.indexByte t 34).toNat + 2) = t.drop ((Lib.indexByte t 34).toNat + 1) := by
     rw [show m + (Lib.indexByte t 34).toNat + 2 = m + ((Lib.indexByte t 34).toNat + 1 + 1) by omega, ← List.drop_drop, hl, List.drop_succ_cons]
    rw [this]
    congr 1; omega
end Lx
end Go.Proofs.YtfbhokdcnjekiaaGreatDoor
set_option linter.unusedVariables false
namespace Go.Proofs.YtfbhokdcnjekiaaGreatDoor
namespace Lx
theorem symR_err (r : Bytes) (p : Nat) (n : Int) (h : symR r = .error (p, n)) : n ≠ 0 := by
 unfold symR at h
 split at h
 · cases h
 · split at h
   · split at h
     · cases h; decide
     · split at h
       · cases h; decide
       · split at h
         · cases h; decide
         · cases h
   · split at h
     · cases h; decide
     · split at h
       · cases h; decide
       · cases h
theorem tokR_err (r : Bytes) (p : Nat) (n : Int) (h : tokR r = .error (p, n)) : n ≠ 0 := by
 cases r with
 | nil => cases h
 | cons c t =>
  have h : tokC c t = .error (p, n) := h
  unfold tokC at h
  split at h
  · split at h
    · cases h; decide
    · cases h
  · split at h
    · split at h
      · cases h
      · rename_i hp; cases h; exact hp
    · split at h
      · split at h
        · cases h; decide
        · cases h
      · split at h
        · split at h
          · cases h; decide
          · split at h
            · cases h; decide
            · cases h
        · split at h
          · exact symR_err t p n h
          · split at h
            · split at h <;> cases h
            · split at h
              · cases h
              · split at h
                · cases h; decide
                · cases h
theorem nextR_err (r : Bytes) (p : Nat) (n : Int) (h : nextR r = .error (p, n)) : n ≠ 0 := by
 unfold nextR at h
 split at h
 · cases h; decide
 · split at h
   · rename_i q e he
     cases h
     exact tokR_err _ _ _ he
   · cases h
end Lx
end Go.Proofs.YtfbhokdcnjekiaaGreatDoor
