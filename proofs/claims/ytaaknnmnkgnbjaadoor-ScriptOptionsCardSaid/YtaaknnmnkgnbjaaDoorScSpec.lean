/- Script, plain: what the program reads, on lists of bytes; lines behind lines. -/
import Derived.Test.YtaaknnmnkgnbjaaDoorBs
import Derived.Lib.Split
import Derived.Lib.SplitLaws
import Derived.Lib.IndexMore
set_option linter.unusedVariables false
namespace Go.Proofs.YtaaknnmnkgnbjaaDoor
namespace Sc
open Bs Sm
/-- A text parted at each c. -/
def sp1 (c : UInt8) : Bytes → List Bytes
  | [] => [[]]
  | b :: t => if b = c then [] :: sp1 c t else match sp1 c t with
    | [] => [[b]]
    | h :: r => (b :: h) :: r
theorem sp1_cons (c b : UInt8) (t : Bytes) : sp1 c (b :: t) = if b = c then [] :: sp1 c t else match sp1 c t with
    | [] => [[b]]
    | h :: r => (b :: h) :: r := rfl
theorem sp1_ne (c : UInt8) : ∀ s, sp1 c s ≠ []
  | [] => by simp [sp1]
  | b :: t => by
    unfold sp1
    split
    · simp
    · split <;> simp
theorem sp1_app (c : UInt8) (b : Bytes) : ∀ a, sp1 c (a ++ c :: b) = sp1 c a ++ sp1 c b
  | [] => by simp [sp1]
  | x :: a => by
    rw [List.cons_append, sp1_cons, sp1_cons, sp1_app c b a]
    split
    · rfl
    · cases h : sp1 c a with
      | nil => exact absurd h (sp1_ne c a)
      | cons y r => rfl
theorem sp1_len (c : UInt8) : ∀ a, (sp1 c a).length = a.count c + 1
  | [] => rfl
  | x :: a => by
    unfold sp1
    have ih := sp1_len c a
    by_cases h : x = c
    · rw [if_pos h, h, List.count_cons_self, List.length_cons, ih]
    · rw [if_neg h, List.count_cons_of_ne h]
      cases h2 : sp1 c a with
      | nil => exact absurd h2 (sp1_ne c a)
      | cons y r => rw [h2] at ih; simpa using ih
theorem sp1_le (c : UInt8) : ∀ a, ∀ x ∈ sp1 c a, x.length ≤ a.length
  | [], x, h => by simp [sp1] at h; simp [h]
  | y :: a, x, h => by
    unfold sp1 at h
    split at h
    · rcases List.mem_cons.1 h with rfl | h
      · simp
      · have := sp1_le c a x h; simp; omega
    · cases h2 : sp1 c a with
      | nil => exact absurd h2 (sp1_ne c a)
      | cons z r =>
        rw [h2] at h
        rcases List.mem_cons.1 h with rfl | h
        · have := sp1_le c a z (by rw [h2]; simp); simp; omega
        · have := sp1_le c a x (by rw [h2]; simp [h]); simp; omega
theorem split_sp1 (c : UInt8) (s : Bytes) : Lib.split s [c] = sp1 c s := by
  unfold Lib.split
  rw [Lib.count_one]
  have hcons : ∀ (b : UInt8) (t : Bytes), Lib.index (b :: t) [c] = if b = c then 0 else if Lib.index t [c] == -1 then -1 else Lib.index t [c] + 1 := by
    intro b t
    conv => lhs; unfold Lib.index
    by_cases h : b = c
    · subst h; simp [List.isPrefixOf]
    · have h' : ¬ (c == b) = true := by simpa using fun e => h e.symm
      simp [List.isPrefixOf, h, h']
  have hK : ∀ (s : Bytes) (k : Nat), s.count c = k → Lib.splitK [c] 0 k s = sp1 c s := by
    intro s
    induction s with
    | nil => intro k hk; simp at hk; subst hk; rfl
    | cons b t ih =>
      intro k hk
      by_cases h : b = c
      · subst h
        rw [List.count_cons_self] at hk
        subst hk
        unfold Lib.splitK sp1
        rw [hcons, if_pos rfl, if_neg (by decide), if_pos rfl]
        show [] :: Lib.splitK [b] 0 (t.count b) t = _
        rw [ih _ rfl]
      · rw [List.count_cons_of_ne h] at hk
        have ih := ih k hk
        unfold sp1
        rw [if_neg h, ← ih]
        cases k with
        | zero => rfl
        | succ k =>
          have hge := Lib.index_ge t [c]
          unfold Lib.splitK
          rw [hcons, if_neg h]
          by_cases hm : (Lib.index t [c] == -1) = true
          · rw [if_pos hm, if_pos (by rfl), if_pos hm]
          · rw [if_neg hm]
            have hne : Lib.index t [c] ≠ -1 := by simpa using hm
            have e1 : ¬ (Lib.index t [c] + 1 == -1) = true := by
              intro e
              have := beq_iff_eq.1 e
              omega
            rw [if_neg e1]
            obtain ⟨i, hi⟩ : ∃ i : Nat, Lib.index t [c] = i := ⟨(Lib.index t [c]).toNat, by omega⟩
            rw [hi]
            have e2 : ((i : Int) + 1).toNat = i + 1 := by omega
            rw [e2]
            simp only [Int.toNat_natCast, Nat.add_zero, List.length_singleton, List.take_succ_cons, List.drop_succ_cons]
            rw [hi] at hm
            rw [if_neg hm]
  exact hK s _ rfl
/-- The words of a line. -/
def wordsR (s : Bytes) : List Bytes := (sp1 32 s).filter (fun w => decide (w ≠ []))
/-- What stands ahead of a note. -/
def aheadR (s : Bytes) : Bytes := (Lib.cut s [35]).1
/-- A command's name. -/
def nameR : Nat → Bytes
  | 1 => [99, 101, 108, 108, 115]
  | 2 => [105, 110, 112, 117, 116]
  | 3 => [116, 105, 99, 107, 115]
  | 4 => [99, 111, 108, 108, 101, 99, 116, 115]
  | 5 => [114, 117, 110]
  | 6 => [114, 101, 108, 111, 97, 100]
  | 7 => [105, 109, 97, 103, 101]
  | 8 => [115, 112, 111, 105, 108]
  | _ => []
def kindF : Nat → Bytes → Nat
  | 0, _ => 0
  | k + 1, w => if nameR (k + 1) = w then k + 1 else kindF k w
theorem kindF_le : ∀ k w, kindF k w ≤ k
  | 0, _ => Nat.le_refl _
  | k + 1, w => by
    unfold kindF
    split
    · exact Nat.le_refl _
    · have := kindF_le k w; omega
/-- A command. -/
structure Cmd where
  kind : Int
  n : Int
  at_ : Int
  list : List Int
  bytes : Bytes
/-- A number's error: 3 no number, 9 too great. -/
def eOf (s : Bytes) (limit : Int) : Int :=
  if pe s = 3 ∨ s.head? = some 45 ∨ (pe s = 0 ∧ Lib.itoa (pv s) ≠ s) ∨ (pe s = 9 ∧ s.head? = some 48) then 3 else if pe s ≠ 0 ∨ limit < pv s then 9 else 0
def nOf (s : Bytes) (limit : Int) : Int := if eOf s limit = 0 then pv s else 0
/-- The limit of the i-th number. -/
def lim (two : Bool) (i : Nat) : Int := if two = true ∧ i ≠ 0 then 255 else 16777216
def numsF (two : Bool) : Nat → List Bytes → List Int
  | _, [] => []
  | i, w :: t => nOf w (lim two i) :: numsF two (i + 1) t
def worstF (two : Bool) : Nat → List Bytes → Int → Int
  | _, [], e => e
  | i, w :: t, e => worstF two (i + 1) t (if eOf w (lim two i) = 3 ∨ e = 0 then eOf w (lim two i) else e)
theorem numsF_len (two : Bool) : ∀ (l : List Bytes) (i : Nat), (numsF two i l).length = l.length
  | [], _ => rfl
  | _ :: t, i => by unfold numsF; rw [List.length_cons, List.length_cons, numsF_len two t]
/-- A hexadecimal digit. -/
def digitsL : Bytes := [48, 49, 50, 51, 52, 53, 54, 55, 56, 57, 97, 98, 99, 100, 101, 102]
def hexd (c : UInt8) : Option Nat := if 0 ≤ Lib.indexByte digitsL c then some (Lib.indexByte digitsL c).toNat else none
def pairsR : Bytes → Option Bytes
  | [] => some []
  | [_] => none
  | a :: b :: t => match hexd a, hexd b with
    | some x, some y => (pairsR t).map (fun r => UInt8.ofNat (16 * x + y) :: r)
    | _, _ => none
def bytesR : List Bytes → Option Bytes
  | [] => some []
  | w :: t => match pairsR w with
    | none => none
    | some x => (bytesR t).map (fun r => x ++ r)
/-- Has this kind of command so many words? -/
def countOk (k m : Nat) : Bool := if k = 0 then false else if k = 1 ∨ k = 5 ∨ k = 6 then m == 1 else if k = 7 then m == 0 else if k = 8 then m == 2 else true
def cmdOf (k : Nat) (l : List Int) : Cmd :=
  if k = 3 ∨ k = 4 then ⟨k, 0, 0, l, []⟩ else if k = 8 then ⟨k, l.getD 1 0, l.getD 0 0, [], []⟩ else if k = 7 then ⟨k, 0, 0, [], []⟩ else ⟨k, l.getD 0 0, 0, [], []⟩
/-- The command of words. -/
def readW (k : Nat) (args : List Bytes) : Except Int Cmd :=
  if countOk k args.length = false then .error 3
  else if k = 2 then match bytesR args with
    | none => .error 3
    | some b => .ok ⟨2, 0, 0, [], b⟩
  else if worstF (k == 8) 0 args 0 ≠ 0 then .error (worstF (k == 8) 0 args 0) else .ok (cmdOf k (numsF (k == 8) 0 args))
/-- Lines of commands, from the i-th on. -/
def linesR : List Bytes → Nat → Except (Nat × Int) (List Cmd)
  | [], _ => .ok []
  | l :: t, i => match wordsR (aheadR l) with
    | [] => linesR t (i + 1)
    | w :: args => match readW (kindF 8 w) args with
      | .error e => .error (i, e)
      | .ok c => match linesR t (i + 1) with
        | .error e => .error e
        | .ok cs => .ok (c :: cs)
def parseR (s : Bytes) : Except (Nat × Int) (List Cmd) := if 65536 < s.length then .error (0, 2) else linesR (sp1 10 s) 0
def shiftE (k : Nat) (x : Except (Nat × Int) (List Cmd)) : Except (Nat × Int) (List Cmd) := match x with
  | .error (i, e) => .error (k + i, e)
  | .ok cs => .ok cs
theorem lines_cons (l : Bytes) (t : List Bytes) (i : Nat) : linesR (l :: t) i = match wordsR (aheadR l) with
    | [] => linesR t (i + 1)
    | w :: args => match readW (kindF 8 w) args with
      | .error e => .error (i, e)
      | .ok c => match linesR t (i + 1) with
        | .error e => .error e
        | .ok cs => .ok (c :: cs) := rfl
theorem lines_shift (k : Nat) : ∀ (l : List Bytes) (i : Nat), linesR l (k + i) = shiftE k (linesR l i)
  | [], i => rfl
  | x :: t, i => by
    rw [lines_cons, lines_cons, show k + i + 1 = k + (i + 1) by omega, lines_shift k t (i + 1)]
    cases wordsR (aheadR x) with
    | nil => rfl
    | cons w args =>
      dsimp only
      cases readW (kindF 8 w) args with
      | error e => rfl
      | ok c =>
        dsimp only
        cases linesR t (i + 1) <;> rfl
theorem lines_app : ∀ (l m : List Bytes) (i : Nat), linesR (l ++ m) i = match linesR l i with
    | .error e => .error e
    | .ok cs => match linesR m (i + l.length) with
      | .error e => .error e
      | .ok ds => .ok (cs ++ ds)
  | [], m, i => by
    rw [List.nil_append, List.length_nil, Nat.add_zero, show linesR [] i = .ok [] from rfl]
    dsimp only
    cases linesR m i <;> rfl
  | x :: t, m, i => by
    rw [List.cons_append, lines_cons, lines_cons, lines_app t m (i + 1), List.length_cons, show i + 1 + t.length = i + (t.length + 1) by omega]
    cases wordsR (aheadR x) with
    | nil => rfl
    | cons w args =>
      dsimp only
      cases readW (kindF 8 w) args with
      | error e => rfl
      | ok c =>
        dsimp only
        cases linesR t (i + 1) with
        | error e => rfl
        | ok cs =>
          dsimp only
          cases linesR m (i + (t.length + 1)) <;> rfl
/-- Two texts, line behind line. -/
theorem parse_join {a b : Bytes} {cs : List Cmd} (h : parseR a = .ok cs) (hsz : (a ++ 10 :: b).length ≤ 65536) :
    parseR (a ++ 10 :: b) = match parseR b with
      | .error (i, e) => .error (a.count 10 + 1 + i, e)
      | .ok ds => .ok (cs ++ ds) := by
  unfold parseR at h ⊢
  rw [List.length_append, List.length_cons] at hsz
  rw [if_neg (by omega)] at h
  rw [if_neg (by rw [List.length_append, List.length_cons]; omega), if_neg (by omega), sp1_app, lines_app, h, sp1_len]
  dsimp only
  rw [show 0 + (a.count 10 + 1) = a.count 10 + 1 + 0 by omega, lines_shift]
  cases linesR (sp1 10 b) 0 with
  | error x => obtain ⟨i, e⟩ := x; rfl
  | ok ds => rfl
end Sc
end Go.Proofs.YtaaknnmnkgnbjaaDoor
