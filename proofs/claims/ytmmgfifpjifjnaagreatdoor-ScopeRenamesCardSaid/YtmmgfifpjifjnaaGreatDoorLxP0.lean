/- What the lexer does, on lists of bytes: plain definitions and laws; no program. Places are counted from where the reading begins. · The lexer's laws: what a blank behind a text does to its tokens. No program. · Two texts with a blank between have the tokens of the one, and of the other: on lists of bytes. No program. · Blanks and notes, a round at a time: plain law. · No error of the lexer has number 0. No program. -/
import Derived.Test.YtmmgfifpjifjnaaGreatDoorSmN
import Derived.Lib.Bytealg
namespace Go.Proofs.YtmmgfifpjifjnaaGreatDoor
namespace Lx
abbrev Bytes := List UInt8
def letter (c : UInt8) : Bool := (decide (97 ≤ c.toNat) && decide (c.toNat ≤ 122)) || (decide (65 ≤ c.toNat) && decide (c.toNat ≤ 90))
def digit (c : UInt8) : Bool := decide (48 ≤ c.toNat) && decide (c.toNat ≤ 57)
def alnum (c : UInt8) : Bool := letter c || digit c
def opsL : Bytes := [43, 45, 42, 47, 92, 126, 60, 62, 61, 38, 44, 64, 37, 63]
def blanksL : Bytes := [32, 9, 10, 13]
def singleL : Bytes := [94, 46, 59, 40, 41, 91, 93]
def opc (c : UInt8) : Bool := c != 0 && opsL.contains c
def blank (c : UInt8) : Bool := blanksL.contains c
def hd (r : Bytes) (n : Nat) : UInt8 := r.getD n 0
structure Tok where
 kind : Nat
 word : Bytes
 num : Int
 at_ : Nat
abbrev Err := Nat × Int

def nameL (r : Bytes) : Nat := if letter (hd r 0) then (r.takeWhile alnum).length else 0
def colonB (r : Bytes) : Bool := hd r 0 == 58 && hd r 1 != 61
def kwF : Nat → Bytes → Nat
 | 0, _ => 0
 | f + 1, r =>
  if nameL r = 0 then 0
  else if colonB (r.drop (nameL r)) then nameL r + 1 + kwF f (r.drop (nameL r + 1)) else 0
def kwL (r : Bytes) : Nat := kwF (r.length + 1) r
def sk : Option Nat → Nat → Bytes → Except Nat Nat
 | none, p, [] => .ok p
 | some st, _, [] => .error st
 | none, p, c :: t => if blank c then sk none (p + 1) t else if c = 34 then sk (some p) (p + 1) t else .ok p
 | some st, p, c :: t => if c = 34 then sk none (p + 1) t else sk (some st) (p + 1) t
def txt : Bytes → Option (Bytes × Nat)
 | [] => none
 | c :: t =>
  if c = 39 then
   match t with
   | d :: t' => if d = 39 then (txt t').map fun x => (39 :: x.1, x.2 + 2) else some ([], 1)
   | [] => some ([], 1)
  else (txt t).map fun x => (c :: x.1, x.2 + 1)
def operL (r : Bytes) : Nat := if hd r 0 = 124 then 1 else if opc (hd r 0) then (if opc (hd r 1) && hd r 1 != 45 then 2 else 1) else 0
def symL (r : Bytes) : Nat := if letter (hd r 0) then (if kwL r = 0 then nameL r else kwL r) else operL r
def wordL (r : Bytes) : Nat := if colonB (r.drop (nameL r)) then nameL r + 1 else nameL r
def symR (r : Bytes) : Except Err (Tok × Nat) :=
 if hd r 0 = 40 then .ok (⟨15, [], 0, 0⟩, 2)
 else if hd r 0 = 39 then
  match txt (r.drop 1) with
  | none => .error (0, 4)
  | some (w, n) => if 4096 < w.length then .error (0, 2) else if 64 < w.length then .error (0, 2) else .ok (⟨5, w, 0, 0⟩, n + 2)
 else
  if symL r = 0 then .error (0, 3) else if 64 < symL r then .error (0, 2) else .ok (⟨5, r.take (symL r), 0, 0⟩, symL r + 1)
def sgl (c : UInt8) : Option Nat := singleL.idxOf? c
def tokC (c : UInt8) (t : Bytes) : Except Err (Tok × Nat) :=
 if letter c then
  if 64 < wordL (c :: t) then .error (0, 2) else .ok (⟨if colonB ((c :: t).drop (nameL (c :: t))) then 2 else 1, (c :: t).take (wordL (c :: t)), 0, 0⟩, wordL (c :: t))
 else if digit c then
  if Sm.pe ((c :: t).takeWhile digit) = 0 then .ok (⟨3, [], Sm.pv ((c :: t).takeWhile digit), 0⟩, ((c :: t).takeWhile digit).length) else .error (0, Sm.pe ((c :: t).takeWhile digit))
 else if c = 36 then (if t = [] then .error (0, 4) else .ok (⟨3, [], ((hd t 0).toNat : Int), 0⟩, 2))
 else if c = 39 then
  match txt t with
  | none => .error (0, 4)
  | some (w, n) => if 4096 < w.length then .error (0, 2) else .ok (⟨4, w, 0, 0⟩, n + 1)
 else if c = 35 then symR t
 else if c = 58 then (if hd t 0 = 61 then .ok (⟨7, [], 0, 0⟩, 2) else .ok (⟨16, [], 0, 0⟩, 1))
 else match sgl c with
  | some i => .ok (⟨8 + i, [], 0, 0⟩, 1)
  | none => if operL (c :: t) = 0 then .error (0, 3) else .ok (⟨6, (c :: t).take (operL (c :: t)), 0, 0⟩, operL (c :: t))
def tokR : Bytes → Except Err (Tok × Nat)
 | [] => .ok (⟨0, [], 0, 0⟩, 0)
 | c :: t => tokC c t
def nextR (r : Bytes) : Except Err (Tok × Nat) :=
 match sk none 0 r with
 | .error st => .error (st, 4)
 | .ok k =>
  match tokR (r.drop k) with
  | .error (p, e) => .error (k + p, e)
  | .ok (t, n) => .ok ({ t with at_ := k + t.at_ }, k + n)
def allF : Nat → Nat → Bytes → Except Err (List Tok)
 | 0, _, _ => .ok []
 | f + 1, base, r =>
  match nextR r with
  | .error (p, e) => .error (base + p, e)
  | .ok (t, n) =>
   if t.kind = 0 then .ok [{ t with at_ := base + t.at_ }]
   else match allF f (base + n) (r.drop n) with
    | .error x => .error x
    | .ok l => .ok ({ t with at_ := base + t.at_ } :: l)
def allR (r : Bytes) : Except Err (List Tok) := allF (r.length + 1) 0 r
def arityL (w : Bytes) : Int :=
 if w = [] then -1 else if 64 < w.length then -1 else if kwL w = w.length then (Lib.countByte w 58) else if nameL w = w.length then 0 else if operL w = w.length then 1 else -1
end Lx
end Go.Proofs.YtmmgfifpjifjnaaGreatDoor
namespace Go.Proofs.YtmmgfifpjifjnaaGreatDoor
namespace Lx
theorem tw_app (p : UInt8 → Bool) (r q : Bytes) (h : p 32 = false) : (r ++ 32 :: q).takeWhile p = r.takeWhile p := by
 induction r with
 | nil => simp [h]
 | cons c t ih => simp only [List.cons_append, List.takeWhile_cons]; split
                  · rw [ih]
                  rfl
theorem hd_app (r q : Bytes) (n : Nat) : hd (r ++ 32 :: q) n = if n < r.length then hd r n else if n = r.length then 32 else hd q (n - r.length - 1) := by
 unfold hd
 split
 · rename_i h; rw [List.getD_eq_getElem?_getD, List.getElem?_append_left h, ← List.getD_eq_getElem?_getD]
 rename_i h
 rw [List.getD_eq_getElem?_getD, List.getElem?_append_right (by omega), ← List.getD_eq_getElem?_getD]
 split
 · rename_i h2; rw [h2, Nat.sub_self]; rfl
 rename_i h2
 obtain ⟨m, hm⟩ : ∃ m, n - r.length = m + 1 := ⟨n - r.length - 1, by omega⟩
 rw [hm, List.getD_cons_succ, Nat.add_sub_cancel]
theorem hd_out (r : Bytes) (n : Nat) (h : r.length ≤ n) : hd r n = 0 := by unfold hd; rw [List.getD_eq_getElem?_getD, List.getElem?_eq_none h]; rfl
theorem test_app (f : UInt8 → Bool) (h0 : f 0 = f 32) (r q : Bytes) (n : Nat) (hn : n ≤ r.length) : f (hd (r ++ 32 :: q) n) = f (hd r n) := by
 rw [hd_app]
 split
 · rfl
 rename_i h
 rw [if_pos (by omega), hd_out r n (by omega), h0]
theorem nameL_app (r q : Bytes) : nameL (r ++ 32 :: q) = nameL r := by
 unfold nameL
 rw [test_app letter (by decide) r q 0 (Nat.zero_le _), tw_app alnum r q (by decide)]
theorem nameL_le (r : Bytes) : nameL r ≤ r.length := by
 unfold nameL; split
 · exact List.Sublist.length_le (List.takeWhile_sublist _)
 omega
theorem colon_app (r q : Bytes) : colonB (r ++ 32 :: q) = colonB r := by
 unfold colonB
 have h : (hd (r ++ 32 :: q) 0 == 58) = (hd r 0 == 58) := test_app (fun c => c == 58) (by decide) r q 0 (Nat.zero_le _)
 rw [h]
 cases hc : (hd r 0 == 58)
 · rfl
 have hr : 1 ≤ r.length := by
  cases r with
  | nil => exact absurd hc (by decide)
  | cons => simp
 have h2 : (hd (r ++ 32 :: q) 1 != 61) = (hd r 1 != 61) := test_app (fun c => c != 61) (by decide) r q 1 hr
 rw [h2]
theorem colon_pos (r : Bytes) (h : colonB r = true) : 1 ≤ r.length := by
 cases r with
 | nil => exact absurd h (by decide)
 | cons => simp
theorem drop_app (r q : Bytes) (n : Nat) (h : n ≤ r.length) : (r ++ 32 :: q).drop n = r.drop n ++ 32 :: q := List.drop_append_of_le_length h
theorem take_app (r q : Bytes) (n : Nat) (h : n ≤ r.length) : (r ++ 32 :: q).take n = r.take n := List.take_append_of_le_length h
theorem kwF_app (q : Bytes) : ∀ (f g : Nat) (r : Bytes), r.length < f → r.length < g → kwF f (r ++ 32 :: q) = kwF g r := by
 intro f
 induction f with
 | zero => intro g r h; omega
 | succ f ih =>
  intro g r hf hg
  cases g with
  | zero => omega
  | succ g =>
   simp only [kwF]
   rw [nameL_app]
   split
   · rfl
   rename_i hn
   have hl := nameL_le r
   rw [drop_app r q _ hl, colon_app]
   split
   · rename_i hc
     have := colon_pos _ hc
     rw [List.length_drop] at this
     rw [drop_app r q _ (by omega), ih g (r.drop (nameL r + 1)) (by rw [List.length_drop]; omega) (by rw [List.length_drop]; omega)]
   rfl
theorem kwL_app (r q : Bytes) : kwL (r ++ 32 :: q) = kwL r := by
 unfold kwL
 exact kwF_app q _ _ r (by simp; omega) (by omega)
theorem kwF_le : ∀ (f : Nat) (r : Bytes), kwF f r ≤ r.length := by
 intro f
 induction f with
 | zero => intro r; simp [kwF]
 | succ f ih =>
  intro r
  simp only [kwF]
  split
  · omega
  split
  · rename_i hc
    have := colon_pos _ hc
    have h2 := ih (r.drop (nameL r + 1))
    rw [List.length_drop] at this h2
    omega
  omega
theorem kwL_le (r : Bytes) : kwL r ≤ r.length := kwF_le _ r
theorem operL_app (r q : Bytes) : operL (r ++ 32 :: q) = operL r := by
 unfold operL
 have h : (hd (r ++ 32 :: q) 0 == 124) = (hd r 0 == 124) := test_app (fun c => c == 124) (by decide) r q 0 (Nat.zero_le _)
 have h1 := test_app opc (by decide) r q 0 (Nat.zero_le _)
 have e : (hd (r ++ 32 :: q) 0 = 124) ↔ (hd r 0 = 124) := by
  constructor <;> intro hh
  · rw [hh] at h; simpa using h.symm
  rw [hh] at h; simpa using h
 simp only [e, h1]
 split
 · rfl
 split
 · rename_i ho
   have hr : 1 ≤ r.length := by
    cases r with
    | nil => exact absurd ho (by decide)
    | cons => simp
   have h2 : (opc (hd (r ++ 32 :: q) 1) && hd (r ++ 32 :: q) 1 != 45) = (opc (hd r 1) && hd r 1 != 45) := test_app (fun c => opc c && c != 45) (by decide) r q 1 hr
   rw [h2]
 rfl
theorem operL_le (r : Bytes) : operL r ≤ r.length := by
 unfold operL
 split
 · rename_i h
   cases r with
   | nil => exact absurd h (by decide)
   | cons => simp
 split
 · rename_i h1 h2
   cases r with
   | nil => exact absurd h2 (by decide)
   | cons c t =>
    split
    · rename_i h3
      cases t with
      | nil => exact absurd h3 (by simp [hd]; decide)
      | cons => simp
    simp
 omega
theorem txt_app : ∀ (r q : Bytes) (x : Bytes × Nat), txt r = some x → txt (r ++ 32 :: q) = some x ∧ x.2 ≤ r.length
 | [], _, _, h => by simp [txt] at h
 | [c], q, x, h => by
  simp only [txt] at h
  split at h
  · rename_i hc
    subst hc
    simp only [Option.some.injEq] at h
    subst h
    simp [txt]
  simp at h
 | c :: d :: t, q, x, h => by
  simp only [txt] at h
  split at h
  · rename_i hc
    split at h
    · rename_i hd'
      obtain ⟨y, hy, hx⟩ := Option.map_eq_some_iff.1 h
      obtain ⟨h1, h2⟩ := txt_app t q y hy
      subst hc; subst hd'
      have e : txt (39 :: 39 :: t ++ 32 :: q) = (txt (t ++ 32 :: q)).map fun x => (39 :: x.1, x.2 + 2) := by
       rw [List.cons_append, List.cons_append]
       conv => lhs; unfold txt
       rfl
      rw [e, h1]
      subst hx
      exact ⟨rfl, by simp; omega⟩
    rename_i hd'
    simp only [Option.some.injEq] at h
    subst h
    subst hc
    have e : txt (39 :: d :: t ++ 32 :: q) = some ([], 1) := by
     rw [List.cons_append, List.cons_append]
     conv => lhs; unfold txt
     rw [if_pos rfl]
     simp [hd']
    rw [e]
    exact ⟨rfl, by simp⟩
  rename_i hc
  have h' : (txt (d :: t)).map (fun x => (c :: x.1, x.2 + 1)) = some x := by rw [← h]
  obtain ⟨y, hy, hx⟩ := Option.map_eq_some_iff.1 h'
  obtain ⟨h1, h2⟩ := txt_app (d :: t) q y hy
  have e : txt (c :: d :: t ++ 32 :: q) = (txt (d :: t ++ 32 :: q)).map fun x => (c :: x.1, x.2 + 1) := by
   rw [List.cons_append]
   conv => lhs; unfold txt
   first | rfl | rw [if_neg hc]
  rw [e, h1]
  subst hx
  exact ⟨rfl, by simp at h2 ⊢; omega⟩
/-! ### a token stays what it is where a blank stands behind it -/
theorem symL_app (r q : Bytes) : symL (r ++ 32 :: q) = symL r := by
 unfold symL
 rw [test_app letter (by decide) r q 0 (Nat.zero_le _), kwL_app, nameL_app, operL_app]
theorem symL_le (r : Bytes) : symL r ≤ r.length := by
 unfold symL
 split
 · split
   · exact nameL_le r
   exact kwL_le r
 exact operL_le r
theorem wordL_app (r q : Bytes) : wordL (r ++ 32 :: q) = wordL r ∧ colonB ((r ++ 32 :: q).drop (nameL r)) = colonB (r.drop (nameL r)) := by
 unfold wordL
 rw [nameL_app, drop_app _ _ _ (nameL_le r), colon_app]
 exact ⟨rfl, rfl⟩
theorem wordL_le (r : Bytes) : wordL r ≤ r.length := by
 unfold wordL
 have hl := nameL_le r
 split
 · rename_i hc; have := colon_pos _ hc; rw [List.length_drop] at this; omega
 exact hl
theorem name_pos (c : UInt8) (r : Bytes) (h : letter c = true) : 0 < nameL (c :: r) := by
 unfold nameL
 have : hd (c :: r) 0 = c := rfl
 rw [this, if_pos h, List.takeWhile_cons, if_pos (by unfold alnum; rw [h]; rfl)]
 simp
theorem word_pos (c : UInt8) (r : Bytes) (h : letter c = true) : 0 < wordL (c :: r) := by
 have := name_pos c r h
 unfold wordL; split <;> omega
theorem symR_app (r q : Bytes) (t : Tok) (n : Nat) (h : symR r = .ok (t, n)) : symR (r ++ 32 :: q) = .ok (t, n) ∧ n ≤ r.length + 1 := by
 unfold symR at h ⊢
 have e40 : (hd (r ++ 32 :: q) 0 = 40) ↔ (hd r 0 = 40) := by
  have : (hd (r ++ 32 :: q) 0 == 40) = (hd r 0 == 40) := test_app (fun c => c == 40) (by decide) r q 0 (Nat.zero_le _)
  rw [← beq_iff_eq, this, beq_iff_eq]
 have e39 : (hd (r ++ 32 :: q) 0 = 39) ↔ (hd r 0 = 39) := by
  have : (hd (r ++ 32 :: q) 0 == 39) = (hd r 0 == 39) := test_app (fun c => c == 39) (by decide) r q 0 (Nat.zero_le _)
  rw [← beq_iff_eq, this, beq_iff_eq]
 simp only [e40, e39, symL_app]
 split at h
 · rename_i h1
   rw [if_pos h1]
   refine ⟨h, ?_⟩
   injection h with h; injection h with _ h; subst h
   cases r with
   | nil => exact absurd h1 (by decide)
   | cons => simp
 rename_i h1
 rw [if_neg h1]
 split at h
 · rename_i h2
   rw [if_pos h2]
   cases r with
   | nil => exact absurd h2 (by decide)
   | cons c r =>
    simp only [List.cons_append, List.drop_succ_cons, List.drop_zero] at h ⊢
    cases hx : txt r with
    | none => rw [hx] at h; cases h
    | some x =>
     obtain ⟨a1, a2⟩ := txt_app r q x hx
     rw [hx] at h
     rw [a1]
     refine ⟨h, ?_⟩
     obtain ⟨w, m⟩ := x
     simp only at h a2
     split at h
     · cases h
     split at h
     · cases h
     injection h with h; injection h with _ h; subst h; simp; omega
 rename_i h2
 rw [if_neg h2]
 have hml := symL_le r
 rw [take_app r q _ hml]
 refine ⟨h, ?_⟩
 split at h
 · cases h
 split at h
 · cases h
 injection h with h; injection h with _ h; omega
theorem tokR_app (r q : Bytes) (t : Tok) (n : Nat) (hr : r ≠ []) (h : tokR r = .ok (t, n)) : tokR (r ++ 32 :: q) = .ok (t, n) ∧ n ≤ r.length ∧ t.kind ≠ 0 ∧ 0 < n := by
 cases r with
 | nil => exact absurd rfl hr
 | cons c r =>
  obtain ⟨hw, hcol⟩ := wordL_app (c :: r) q
  have hn := nameL_app (c :: r) q
  have hwl := wordL_le (c :: r)
  have htw := tw_app digit (c :: r) q (by decide)
  have hop := operL_app (c :: r) q
  rw [List.cons_append] at hw hcol hn htw hop ⊢
  simp only [tokR] at h ⊢
  unfold tokC at h ⊢
  rw [hw, hn, hcol, htw, hop]
  split at h
  · rename_i h1
    rw [if_pos h1]
    have hk0 := word_pos c r h1
    rw [← List.cons_append, take_app _ _ _ hwl]
    split at h
    · cases h
    rename_i h64
    rw [if_neg h64]
    injection h with h; injection h with h1' h2'
    subst h1'; subst h2'
    refine ⟨rfl, hwl, ?_, hk0⟩
    simp only; split <;> omega
  rename_i h1
  rw [if_neg h1]
  split at h
  · rename_i h2
    rw [if_pos h2]
    split at h
    · rename_i h3
      rw [if_pos h3]
      injection h with h; injection h with h1' h2'
      subst h1'; subst h2'
      refine ⟨rfl, List.Sublist.length_le (List.takeWhile_sublist _), by simp, ?_⟩
      rw [List.takeWhile_cons, if_pos h2]; simp
    cases h
  rename_i h2
  rw [if_neg h2]
  split at h
  · rename_i h3
    rw [if_pos h3]
    cases r with
    | nil => cases h
    | cons d r =>
     rw [if_neg (by simp)] at h
     injection h with h; injection h with h1' h2'
     subst h1'; subst h2'
     exact ⟨by rw [if_neg (by simp)]; rfl, by simp, by simp, by omega⟩
  rename_i h3
  rw [if_neg h3]
  split at h
  · rename_i h4
    rw [if_pos h4]
    cases hx : txt r with
    | none => rw [hx] at h; cases h
    | some x =>
     obtain ⟨a1, a2⟩ := txt_app r q x hx
     rw [hx] at h
     rw [a1]
     obtain ⟨w, m⟩ := x
     simp only at h a2 ⊢
     split at h
     · cases h
     rename_i h5
     rw [if_neg h5]
     injection h with h; injection h with h1' h2'
     subst h1'; subst h2'
     exact ⟨rfl, by simp; omega, by simp, by omega⟩
  rename_i h4
  rw [if_neg h4]
  split at h
  · rename_i h5
    rw [if_pos h5]
    obtain ⟨a1, a2⟩ := symR_app r q t n h
    refine ⟨a1, by simpa using a2, ?_⟩
    unfold symR at h
    split at h
    · injection h with h; injection h with h1' h2'
      subst h1'; subst h2'; exact ⟨by simp, by omega⟩
    split at h
    · split at h
      · cases h
      split at h
      · cases h
      split at h
      · cases h
      injection h with h; injection h with h1' h2'
      subst h1'; subst h2'; exact ⟨by simp, by omega⟩
    split at h
    · cases h
    split at h
    · cases h
    injection h with h; injection h with h1' h2'
    subst h1'; subst h2'; exact ⟨by simp, by omega⟩
  rename_i h5
  rw [if_neg h5]
  split at h
  · rename_i h6
    rw [if_pos h6]
    have e61 : (hd (r ++ 32 :: q) 0 = 61) ↔ (hd r 0 = 61) := by
     have : (hd (r ++ 32 :: q) 0 == 61) = (hd r 0 == 61) := test_app (fun c => c == 61) (by decide) r q 0 (Nat.zero_le _)
     rw [← beq_iff_eq, this, beq_iff_eq]
    simp only [e61]
    refine ⟨h, ?_⟩
    split at h
    · rename_i h7
      injection h with h; injection h with h1' h2'
      subst h1'; subst h2'
      refine ⟨?_, by simp, by omega⟩
      cases r with
      | nil => exact absurd h7 (by decide)
      | cons => simp
    injection h with h; injection h with h1' h2'
    subst h1'; subst h2'
    exact ⟨by simp, by simp, by omega⟩
  rename_i h6
  rw [if_neg h6]
  cases hs : sgl c with
  | some i =>
   rw [hs] at h
   injection h with h; injection h with h1' h2'
   subst h1'; subst h2'
   exact ⟨rfl, by simp, by simp, by omega⟩
  | none =>
   rw [hs] at h
   simp only at h ⊢
   split at h
   · cases h
   rename_i h7
   rw [if_neg h7]
   have hol := operL_le (c :: r)
   rw [← List.cons_append, take_app _ _ _ hol]
   injection h with h; injection h with h1' h2'
   subst h1'; subst h2'
   exact ⟨rfl, hol, by simp, by omega⟩
/-! ### blanks and notes -/
theorem sk_shift (r : Bytes) : ∀ (m : Option Nat) (p k : Nat), sk (m.map (· + k)) (p + k) r = match sk m p r with | .ok x => .ok (x + k) | .error x => .error (x + k) := by
 induction r with
 | nil => intro m p k; cases m <;> rfl
 | cons c t ih =>
  intro m p k
  cases m with
  | none =>
   simp only [Option.map_none, sk]
   split
   · have := ih none (p + 1) k
     rw [show p + 1 + k = p + k + 1 by omega] at this
     exact this
   split
   · have := ih (some p) (p + 1) k
     rw [show p + 1 + k = p + k + 1 by omega] at this
     exact this
   rfl
  | some st =>
   simp only [Option.map_some, sk]
   split
   · have := ih none (p + 1) k
     rw [show p + 1 + k = p + k + 1 by omega] at this
     exact this
   have := ih (some st) (p + 1) k
   rw [show p + 1 + k = p + k + 1 by omega] at this
   exact this
theorem sk_le (r : Bytes) : ∀ (m : Option Nat) (p x : Nat), sk m p r = .ok x → p ≤ x ∧ x ≤ p + r.length := by
 induction r with
 | nil =>
  intro m p x h
  cases m with
  | none => injection h with h; subst h; simp
  | some => cases h
 | cons c t ih =>
  intro m p x h
  cases m with
  | none =>
   simp only [sk] at h
   split at h
   · have := ih _ _ _ h; simp; omega
   split at h
   · have := ih _ _ _ h; simp; omega
   injection h with h; subst h; simp
  | some st =>
   simp only [sk] at h
   split at h
   · have := ih _ _ _ h; simp; omega
   have := ih _ _ _ h; simp; omega
end Lx
end Go.Proofs.YtmmgfifpjifjnaaGreatDoor
namespace Go.Proofs.YtmmgfifpjifjnaaGreatDoor
namespace Lx
theorem tokR_kind (r : Bytes) (t : Tok) (n : Nat) (h : tokR r = .ok (t, n)) : (r = [] ∧ t = ⟨0, [], 0, 0⟩ ∧ n = 0) ∨ (r ≠ [] ∧ t.kind ≠ 0 ∧ 0 < n ∧ n ≤ r.length) := by
 cases r with
 | nil => left; injection h with h; injection h with h1 h2; exact ⟨rfl, h1.symm, h2.symm⟩
 | cons c r =>
  right
  obtain ⟨_, h2, h3, h4⟩ := tokR_app (c :: r) [] t n (by simp) h
  exact ⟨by simp, h3, h4, h2⟩
theorem nextR_ok (r : Bytes) (t : Tok) (n : Nat) (h : nextR r = .ok (t, n)) :
  (t.kind = 0 → t = ⟨0, [], 0, r.length⟩ ∧ n = r.length ∧ sk none 0 r = .ok r.length) ∧ (t.kind ≠ 0 → 0 < n ∧ n ≤ r.length) := by
 unfold nextR at h
 cases hs : sk none 0 r with
 | error st => rw [hs] at h; cases h
 | ok k =>
  rw [hs] at h
  have hk := sk_le r none 0 k hs
  simp only at h
  cases ht : tokR (r.drop k) with
  | error x => rw [ht] at h; cases h
  | ok y =>
   obtain ⟨u, m⟩ := y
   rw [ht] at h
   injection h with h; injection h with h1 h2
   subst h1; subst h2
   rcases tokR_kind _ _ _ ht with ⟨e1, rfl, rfl⟩ | ⟨e1, e2, e3, e4⟩
   · have hl : r.length ≤ k := by simpa using e1
     have hk' : k = r.length := by omega
     subst hk'
     exact ⟨fun _ => ⟨by simp, by omega, rfl⟩, fun hne => absurd rfl hne⟩
   rw [List.length_drop] at e4
   have : k < r.length := by
    rcases Nat.lt_or_ge k r.length with hh | hh
    · exact hh
    exact absurd (List.drop_eq_nil_of_le hh) e1
   exact ⟨fun hz => absurd hz e2, fun _ => ⟨by omega, by omega⟩⟩
def far (k : Nat) : Except Err (Tok × Nat) → Except Err (Tok × Nat)
 | .error (p, e) => .error (k + p, e)
 | .ok (t, n) => .ok ({ t with at_ := k + t.at_ }, k + n)
end Lx
end Go.Proofs.YtmmgfifpjifjnaaGreatDoor
namespace Go.Proofs.YtmmgfifpjifjnaaGreatDoor
namespace Lx
theorem idx_at (c : UInt8) : ∀ (l : Bytes), Lib.indexByte l c = -1 ∨ (0 ≤ Lib.indexByte l c ∧ (Lib.indexByte l c).toNat < l.length)
 | [] => Or.inl rfl
 | b :: l => by
  have ih := idx_at c l
  simp only [Lib.indexByte, List.length_cons]
  split
  · right; constructor
    · omega
    simp
  split
  · exact Or.inl rfl
  rename_i h1 h2
  rcases ih with h | h
  · rw [h] at h2; exact absurd rfl h2
  right; omega
theorem sk_note (st : Nat) : ∀ (r : Bytes) (p : Nat), sk (some st) p r = if Lib.indexByte r 34 = -1 then .error st else sk none (p + (Lib.indexByte r 34).toNat + 1) (r.drop ((Lib.indexByte r 34).toNat + 1))
 | [], p => by simp [sk, Lib.indexByte]
 | c :: t, p => by
  by_cases hc : c = 34
  · subst hc
    have hI : Lib.indexByte (34 :: t) 34 = 0 := by simp [Lib.indexByte]
    rw [hI]; simp [sk]
  have hb : (c == 34) = false := by simpa using hc
  have hs : sk (some st) p (c :: t) = sk (some st) (p + 1) t := by simp only [sk]; rw [if_neg hc]
  rw [hs, sk_note st t (p + 1)]
  rcases idx_at 34 t with h | ⟨h, h'⟩
  · have hI : Lib.indexByte (c :: t) 34 = -1 := by simp only [Lib.indexByte]; rw [hb, h]; rfl
    rw [hI, h]; rfl
  have h1 : ¬ (Lib.indexByte t 34 == -1) = true := by rw [beq_iff_eq]; omega
  have hI : Lib.indexByte (c :: t) 34 = Lib.indexByte t 34 + 1 := by simp only [Lib.indexByte]; rw [hb, if_neg h1]; rfl
  rw [hI, if_neg (by omega), if_neg (by omega)]
  have h2 : (Lib.indexByte t 34 + 1).toNat = (Lib.indexByte t 34).toNat + 1 := by omega
  rw [h2, List.drop_succ_cons]
  congr 1; omega
theorem sk_blanks : ∀ (r : Bytes) (p : Nat), sk none p r = sk none (p + (r.takeWhile blank).length) (r.drop (r.takeWhile blank).length)
 | [], p => by simp
 | c :: t, p => by
  cases hc : blank c
  · simp [hc]
  have := sk_blanks t (p + 1)
  simp only [List.takeWhile_cons, hc, if_true, List.length_cons, List.drop_succ_cons]
  rw [show p + ((t.takeWhile blank).length + 1) = p + 1 + (t.takeWhile blank).length by omega, ← this]
  simp [sk, hc]
theorem hd_tw (r : Bytes) : blank (hd (r.drop (r.takeWhile blank).length) 0) = false := by
 induction r with
 | nil => rfl
 | cons c t ih =>
  cases hc : blank c
  · simp [hc, hd]
  simpa [List.takeWhile_cons, hc] using ih
theorem sk_round (r : Bytes) (p m : Nat) (hm : (r.takeWhile blank).length = m) :
  (hd (r.drop m) 0 ≠ 34 → sk none p r = .ok (p + m)) ∧
  (hd (r.drop m) 0 = 34 → Lib.indexByte (r.drop (m + 1)) 34 = -1 → sk none p r = .error (p + m)) ∧
  (hd (r.drop m) 0 = 34 → Lib.indexByte (r.drop (m + 1)) 34 ≠ -1 → sk none p r = sk none (p + m + (Lib.indexByte (r.drop (m + 1)) 34).toNat + 2) (r.drop (m + (Lib.indexByte (r.drop (m + 1)) 34).toNat + 2))) := by
 have hb := sk_blanks r p
 have hh := hd_tw r
 rw [hm] at hb hh
 have hd1 : r.drop (m + 1) = (r.drop m).drop 1 := by rw [List.drop_drop]
 cases hl : r.drop m with
 | nil =>
  rw [hl] at hb hd1
  refine ⟨fun _ => by rw [hb]; rfl, fun h => absurd h (by decide), fun h => absurd h (by decide)⟩
 | cons c t =>
  rw [hl] at hb hd1 hh
  have hc : hd (c :: t) 0 = c := rfl
  rw [hc] at hh ⊢
  simp only [List.drop_succ_cons, List.drop_zero] at hd1
  rw [hd1]
  refine ⟨fun h => ?_, fun h h2 => ?_, fun h h2 => ?_⟩
  · rw [hb]; simp only [sk, hh]; simp [h]
  · rw [hb]; simp only [sk, hh]; rw [if_pos h, if_neg (by decide), sk_note, if_pos h2]
  rw [hb]; simp only [sk, hh]; rw [if_pos h, if_neg (by decide), sk_note, if_neg h2]
  have : r.drop (m + (Lib.indexByte t 34).toNat + 2) = t.drop ((Lib.indexByte t 34).toNat + 1) := by
   rw [show m + (Lib.indexByte t 34).toNat + 2 = m + ((Lib.indexByte t 34).toNat + 1 + 1) by omega, ← List.drop_drop, hl, List.drop_succ_cons]
  rw [this]
  congr 1; omega
end Lx
end Go.Proofs.YtmmgfifpjifjnaaGreatDoor
set_option linter.unusedVariables false
namespace Go.Proofs.YtmmgfifpjifjnaaGreatDoor
namespace Lx
theorem symR_err (r : Bytes) (p : Nat) (n : Int) (h : symR r = .error (p, n)) : n ≠ 0 := by
 unfold symR at h
 split at h
 · cases h
 split at h
 · split at h
   · cases h; decide
   split at h
   · cases h; decide
   split at h
   · cases h; decide
   cases h
 split at h
 · cases h; decide
 split at h
 · cases h; decide
 cases h
theorem tokR_err (r : Bytes) (p : Nat) (n : Int) (h : tokR r = .error (p, n)) : n ≠ 0 := by
 cases r with
 | nil => cases h
 | cons c t =>
  have h : tokC c t = .error (p, n) := h
  unfold tokC at h
  split at h
  · split at h
    · cases h; decide
    cases h
  split at h
  · split at h
    · cases h
    rename_i hp; cases h; exact hp
  split at h
  · split at h
    · cases h; decide
    cases h
  split at h
  · split at h
    · cases h; decide
    split at h
    · cases h; decide
    cases h
  split at h
  · exact symR_err t p n h
  split at h
  · split at h <;> cases h
  split at h
  · cases h
  split at h
  · cases h; decide
  cases h
theorem nextR_err (r : Bytes) (p : Nat) (n : Int) (h : nextR r = .error (p, n)) : n ≠ 0 := by
 unfold nextR at h
 split at h
 · cases h; decide
 split at h
 · rename_i q e he
   cases h
   exact tokR_err _ _ _ he
 cases h
end Lx
end Go.Proofs.YtmmgfifpjifjnaaGreatDoor
