/- What the reader of files (package chunk) does, on lists of bytes: plain definitions and laws; no program. · Files of definitions, plain: where each byte of a method's text stands. · Files of definitions, plain: two of them, one behind the other. · Files of definitions, plain: bounds. -/
import Derived.Test.YthdigbkcffihkaaGreatDoorLxSpec
import Derived.Lib.SlTrimSet
import Derived.Lib.Hide
import Derived.Test.YthdigbkcffihkaaGreatDoorLxE3
set_option linter.unusedVariables false
namespace Go.Proofs.YthdigbkcffihkaaGreatDoor
namespace Ck
open Lx
/-- A piece: its text without the blanks at its ends, and where that begins. -/
abbrev Piece := Bytes × Nat
def pieceL (b : Bytes) (from_ : Nat) : Piece :=
  (Lib.trimRightS (Lib.trimLeftS b blanksL) blanksL, from_ + b.length - (Lib.trimLeftS b blanksL).length)
/-- All pieces from here on, and where what stands behind the last one began, and what it has. i: the place; from_: where the piece began; b: what it has so far. -/
def cutE : Bytes → Nat → Nat → Bytes → List Piece × Nat × Bytes
  | [], _, from_, b => ([], from_, b)
  | [c], i, from_, b => if c = 33 then ([pieceL b from_], i + 1, []) else ([], from_, b ++ [c])
  | c :: d :: t, i, from_, b =>
    if c = 33 then
      if d = 33 then cutE t (i + 2) from_ (b ++ [33])
      else (pieceL b from_ :: (cutE (d :: t) (i + 1) (i + 1) []).1, (cutE (d :: t) (i + 1) (i + 1) []).2)
    else cutE (d :: t) (i + 1) from_ (b ++ [c])
def restL (y : List Piece × Nat × Bytes) : Piece := pieceL y.2.2 y.2.1
/-- Words with blanks between. -/
def wordsF : Nat → Bytes → List Bytes
  | 0, _ => []
  | f + 1, s => if s = [] then [] else s.takeWhile (fun c => !Lx.blank c) :: wordsF f (Lib.trimLeftS (s.dropWhile (fun c => !Lx.blank c)) blanksL)
def wordsL (s : Bytes) : List Bytes := wordsF (s.length + 1) (Lib.trimS s blanksL)
structure Cls where
  name : Bytes
  super : Bytes
  fields : List Bytes
  at_ : Nat
structure Src where
  cls : Bytes
  meta_ : Bool
  text : Bytes
  at_ : Nat
/-- What was read so far; which class's methods are being read. -/
structure Rst where
  cs : List Cls
  ss : List Src
  opn : Option (Bytes × Bool)
def named (s : Bytes) : Bool := arityL s == 0
def fits1 (sh : Nat × Bytes) (t : Tok) : Bool := t.kind == sh.1 && (sh.2.isEmpty || t.word == sh.2)
def fitsL : List (Nat × Bytes) → List Tok → Bool
  | [], [] => true
  | s :: r, t :: l => fits1 s t && fitsL r l
  | _, _ => false
def wSub : Bytes := [115, 117, 98, 99, 108, 97, 115, 115, 58]
def wFields : Bytes := [102, 105, 101, 108, 100, 115, 58]
def wMethods : Bytes := [109, 101, 116, 104, 111, 100, 115]
def wClass : Bytes := [99, 108, 97, 115, 115]
def wNil : Bytes := [110, 105, 108]
def shClass : List (Nat × Bytes) := [(1, []), (2, wSub), (5, []), (2, wFields), (4, []), (0, [])]
def shHeader : List (Nat × Bytes) := [(1, []), (1, wMethods), (0, [])]
def shMetas : List (Nat × Bytes) := [(1, []), (1, wClass), (1, wMethods), (0, [])]
def wd (l : List Tok) (i : Nat) : Bytes := (l[i]?.map (·.word)).getD []
/-- A definition of tokens. -/
def classOf (l : List Tok) (at_ : Nat) : Cls := ⟨wd l 2, if wd l 0 = wNil then [] else wd l 0, wordsL (wd l 4), at_⟩
def classOk (l : List Tok) : Bool := named (wd l 2) && (wordsL (wd l 4)).all named
/-- A piece that is no method. -/
def takeL (p : Piece) (st : Rst) : Except Int Rst :=
  match allR p.1 with
  | .error (_, e) => .error e
  | .ok l =>
    if fitsL shClass l then (if classOk l then .ok { st with cs := st.cs ++ [classOf l p.2] } else .error 3)
    else if fitsL shHeader l then .ok { st with opn := some (wd l 0, false) }
    else if fitsL shMetas l then .ok { st with opn := some (wd l 0, true) }
    else .error 3
def stepL (p : Piece) (st : Rst) : Except Int Rst :=
  if p.1 = [] then .ok { st with opn := none }
  else match st.opn with
    | some (c, m) => .ok { st with ss := st.ss ++ [⟨c, m, p.1, p.2⟩] }
    | none => takeL p st
def readP : List Piece → Rst → Except Err Rst
  | [], st => .ok st
  | p :: r, st => match stepL p st with
    | .error e => .error (p.2, e)
    | .ok st' => readP r st'
/-- What a file has; or the place and number of the first thing that is wrong. -/
def readR (s : Bytes) : Except Err (List Cls × List Src) :=
  if 65536 < s.length then .error (0, 2)
  else match readP (cutE s 0 0 []).1 ⟨[], [], none⟩ with
    | .error x => .error x
    | .ok st =>
      if (restL (cutE s 0 0 [])).1 ≠ [] then .error ((restL (cutE s 0 0 [])).2, 4)
      else if st.opn ≠ none then .error (s.length, 4)
      else .ok (st.cs, st.ss)
end Ck
end Go.Proofs.YthdigbkcffihkaaGreatDoor
namespace Go.Proofs.YthdigbkcffihkaaGreatDoor
namespace Ck
open Lx
/-- One step of the cutting. -/
theorem cut_other (s : Bytes) (i f : Nat) (b : Bytes) (c : UInt8) (hc : s[i]? = some c) (h : c ≠ 33) : cutE (s.drop i) i f b = cutE (s.drop (i + 1)) (i + 1) f (b ++ [c]) := by
  have hl := (List.getElem?_eq_some_iff.1 hc)
  obtain ⟨hi, he⟩ := hl
  rw [List.drop_eq_getElem_cons hi, he]
  cases hd : s.drop (i + 1) with
  | nil => simp [cutE, h]
  | cons d t => simp [cutE, h]
theorem cut_twice (s : Bytes) (i f : Nat) (b : Bytes) (hc : s[i]? = some 33) (hn : s[i + 1]? = some 33) : cutE (s.drop i) i f b = cutE (s.drop (i + 2)) (i + 2) f (b ++ [33]) := by
  obtain ⟨hi, he⟩ := List.getElem?_eq_some_iff.1 hc
  obtain ⟨hi2, he2⟩ := List.getElem?_eq_some_iff.1 hn
  rw [List.drop_eq_getElem_cons hi, he, List.drop_eq_getElem_cons hi2, he2]
  simp [cutE]
theorem cut_end (s : Bytes) (i f : Nat) (b : Bytes) (hc : s[i]? = some 33) (hn : s[i + 1]? ≠ some 33) : cutE (s.drop i) i f b = (pieceL b f :: (cutE (s.drop (i + 1)) (i + 1) (i + 1) []).1, (cutE (s.drop (i + 1)) (i + 1) (i + 1) []).2) := by
  obtain ⟨hi, he⟩ := List.getElem?_eq_some_iff.1 hc
  rw [List.drop_eq_getElem_cons hi, he]
  cases hd : s.drop (i + 1) with
  | nil => simp [cutE]
  | cons d t =>
    have h2 : s[i + 1]? = some d := by
      have := congrArg (fun l => l[0]?) hd
      simpa [List.getElem?_drop] using this
    have hne : d ≠ 33 := fun e => hn (by rw [h2, e])
    simp [cutE, hne]
def cnt (l : Bytes) : Nat := Lib.countByte l 33
theorem cnt_app (l m : Bytes) : cnt (l ++ m) = cnt l + cnt m := by unfold cnt Lib.countByte; exact List.count_append
theorem cnt_blank (l : Bytes) (h : ∀ c ∈ l, Lx.blank c = true) : cnt l = 0 := by
  unfold cnt Lib.countByte
  rw [List.count_eq_zero]
  intro hm
  have := h 33 hm
  revert this; decide
/-- What has been read of a piece stands in the file. -/
def Inv (s : Bytes) (i f : Nat) (b : Bytes) : Prop := i = f + b.length + cnt b ∧ ∀ j, j < b.length → s[f + j + cnt (b.take j)]? = b[j]?
theorem Inv.nil (s : Bytes) (i : Nat) : Inv s i i [] := ⟨by simp [cnt, Lib.countByte], fun j h => absurd h (by simp)⟩
theorem Inv.snoc {s : Bytes} {i f : Nat} {b : Bytes} {c : UInt8} (h : Inv s i f b) (hc : s[i]? = some c) (i' : Nat) (hi : i' = i + 1 + cnt [c]) : Inv s i' f (b ++ [c]) := by
  obtain ⟨h1, h2⟩ := h
  refine ⟨by rw [cnt_app, List.length_append, List.length_singleton]; omega, fun j hj => ?_⟩
  rw [List.length_append, List.length_singleton] at hj
  by_cases hjb : j < b.length
  · rw [List.take_append_of_le_length (by omega), List.getElem?_append_left hjb]; exact h2 j hjb
  · have : j = b.length := by omega
    subst this
    rw [List.take_left', List.getElem?_append_right (Nat.le_refl _), Nat.sub_self, ← h1]
    · simpa using hc
    · rfl
/-- Where a byte of a piece stands. -/
def PlaceOk (s : Bytes) (p : Piece) : Prop := ∀ k, k < p.1.length → s[p.2 + k + cnt (p.1.take k)]? = p.1[k]?
theorem dropWhile_split (p : UInt8 → Bool) : ∀ l : Bytes, ∃ n, l.dropWhile p = l.drop n ∧ n ≤ l.length ∧ ∀ c ∈ l.take n, p c = true
  | [] => ⟨0, rfl, Nat.le_refl _, fun c hc => by cases hc⟩
  | c :: l => by
    cases hp : p c with
    | true =>
      obtain ⟨n, h1, h2, h3⟩ := dropWhile_split p l
      refine ⟨n + 1, ?_, by simp; omega, fun x hx => ?_⟩
      · rw [List.dropWhile_cons, if_pos hp, h1]; rfl
      · rw [List.take_succ_cons] at hx
        rcases List.mem_cons.1 hx with rfl | hx
        · exact hp
        · exact h3 x hx
    | false => exact ⟨0, by rw [List.dropWhile_cons, hp]; rfl, Nat.zero_le _, fun x hx => by cases hx⟩
theorem trimL_split (l : Bytes) : ∃ n, Lib.trimLeftS l blanksL = l.drop n ∧ n ≤ l.length ∧ ∀ c ∈ l.take n, Lx.blank c = true := dropWhile_split _ l
theorem trimR_split (l : Bytes) : ∃ m, Lib.trimRightS l blanksL = l.take m ∧ m ≤ l.length ∧ ∀ c ∈ l.drop m, Lx.blank c = true := by
  obtain ⟨n, h1, h2, h3⟩ := dropWhile_split (blanksL.contains ·) l.reverse
  refine ⟨l.length - n, ?_, by omega, ?_⟩
  · unfold Lib.trimRightS
    rw [h1]
    have := @List.length_reverse _ l
    rw [List.drop_reverse, List.reverse_reverse]
  · intro c hc
    apply h3
    rw [List.take_reverse]
    simpa using hc
theorem piece_ok {s : Bytes} {i f : Nat} {b : Bytes} (h : Inv s i f b) : PlaceOk s (pieceL b f) := by
  obtain ⟨h1, h2⟩ := h
  obtain ⟨n, e1, hn, hb⟩ := trimL_split b
  obtain ⟨m, e2, hm, _⟩ := trimR_split (b.drop n)
  unfold pieceL PlaceOk
  simp only
  rw [e1, e2]
  rw [List.length_drop] at hm
  intro k hk
  rw [List.length_take, List.length_drop] at hk
  have hk1 : k < m := by omega
  have e3 : ((b.drop n).take m)[k]? = b[n + k]? := by rw [List.getElem?_take_of_lt hk1, List.getElem?_drop]
  have e4 : ((b.drop n).take m).take k = (b.drop n).take k := by rw [List.take_take]; congr 1; omega
  have e5 : b.take (n + k) = b.take n ++ (b.drop n).take k := List.take_add
  have e6 : cnt (b.take (n + k)) = cnt ((b.drop n).take k) := by rw [e5, cnt_app, cnt_blank _ hb, Nat.zero_add]
  rw [e3, e4, ← h2 (n + k) (by omega), e6]
  congr 1
  rw [List.length_drop]; omega
theorem cutE_places (s : Bytes) : ∀ (n : Nat) (i f : Nat) (b : Bytes), s.length - i ≤ n → i ≤ s.length → Inv s i f b → ∀ p ∈ (cutE (s.drop i) i f b).1, PlaceOk s p := by
  intro n
  induction n with
  | zero =>
    intro i f b hn hi hv p hp
    rw [List.drop_eq_nil_of_le (by omega)] at hp
    simp [cutE] at hp
  | succ n ih =>
    intro i f b hn hi hv p hp
    by_cases hil : i < s.length
    · have hc : s[i]? = some s[i] := List.getElem?_eq_getElem hil
      by_cases h33 : s[i] = 33
      · rw [h33] at hc
        by_cases hn2 : s[i + 1]? = some 33
        · have hi2 := (List.getElem?_eq_some_iff.1 hn2).1
          rw [cut_twice s i f b hc hn2] at hp
          exact ih (i + 2) f _ (by omega) (by omega) (hv.snoc hc _ (by simp [cnt, Lib.countByte])) p hp
        · rw [cut_end s i f b hc hn2] at hp
          rcases List.mem_cons.1 hp with rfl | hp
          · exact piece_ok hv
          · exact ih (i + 1) (i + 1) [] (by omega) (by omega) (Inv.nil _ _) p hp
      · rw [cut_other s i f b _ hc h33] at hp
        exact ih (i + 1) f _ (by omega) (by omega) (hv.snoc hc _ (by have : cnt [s[i]] = 0 := by unfold cnt Lib.countByte; rw [List.count_eq_zero]; simp; exact fun e => h33 e.symm
                                                                     omega)) p hp
    · rw [List.drop_eq_nil_of_le (by omega)] at hp
      simp [cutE] at hp
/-- All texts are pieces. -/
theorem stepL_ss {p : Piece} {st st' : Rst} (h : stepL p st = .ok st') : ∀ x ∈ st'.ss, x ∈ st.ss ∨ (x.text = p.1 ∧ x.at_ = p.2) := by
  unfold stepL at h
  split at h
  · cases h; exact fun x hx => .inl hx
  · split at h
    · cases h
      intro x hx
      rcases List.mem_append.1 hx with hx | hx
      · exact .inl hx
      · simp at hx; subst hx; exact .inr ⟨rfl, rfl⟩
    · unfold takeL at h
      split at h
      · cases h
      · split at h
        · split at h
          · cases h; exact fun x hx => .inl hx
          · cases h
        · split at h
          · cases h; exact fun x hx => .inl hx
          · split at h
            · cases h; exact fun x hx => .inl hx
            · cases h
theorem readP_ss : ∀ (ps : List Piece) (st st' : Rst), readP ps st = .ok st' → ∀ x ∈ st'.ss, x ∈ st.ss ∨ ∃ p ∈ ps, x.text = p.1 ∧ x.at_ = p.2
  | [], st, st', h, x, hx => by cases h; exact .inl hx
  | p :: r, st, st', h, x, hx => by
    unfold readP at h
    split at h
    · cases h
    · rename_i st1 h1
      rcases readP_ss r st1 st' h x hx with h2 | ⟨q, hq, h3⟩
      · rcases stepL_ss h1 x h2 with h4 | h4
        · exact .inl h4
        · exact .inr ⟨p, List.mem_cons_self .., h4⟩
      · exact .inr ⟨q, List.mem_cons_of_mem _ hq, h3⟩
/-- Each byte of a text stands in the file where it is told. -/
theorem read_places (s : Bytes) (cs : List Cls) (ss : List Src) (h : readR s = .ok (cs, ss)) : ∀ x ∈ ss, ∀ k, k < x.text.length → s[x.at_ + k + cnt (x.text.take k)]? = x.text[k]? := by
  unfold readR at h
  split at h
  · cases h
  · split at h
    · cases h
    · rename_i st hst
      split at h
      · cases h
      · split at h
        · cases h
        · cases h
          intro x hx
          rcases readP_ss _ _ _ hst x hx with h0 | ⟨p, hp, h1, h2⟩
          · cases h0
          · have := cutE_places s (s.length - 0) 0 0 [] (Nat.le_refl _) (Nat.zero_le _) (Inv.nil _ _) p hp
            intro k hk
            rw [h1] at hk ⊢; rw [h2]
            exact this k hk
end Ck
end Go.Proofs.YthdigbkcffihkaaGreatDoor
namespace Go.Proofs.YthdigbkcffihkaaGreatDoor
namespace Ck
open Lx
def shP (k : Nat) (p : Piece) : Piece := (p.1, k + p.2)
/-- Where no ! comes together with another one: what is behind is cut on its own. -/
theorem cutE_app (x : Bytes) : ∀ (n : Nat) (r : Bytes) (i f : Nat) (b : Bytes), r.length ≤ n → (r.getLast? ≠ some 33 ∨ x.head? ≠ some 33) →
    cutE (r ++ x) i f b = ((cutE r i f b).1 ++ (cutE x (i + r.length) (cutE r i f b).2.1 (cutE r i f b).2.2).1, (cutE x (i + r.length) (cutE r i f b).2.1 (cutE r i f b).2.2).2) := by
  intro n
  induction n with
  | zero =>
    intro r i f b hn _
    have : r = [] := List.eq_nil_of_length_eq_zero (by omega)
    subst this
    simp [cutE]
  | succ n ih =>
    intro r i f b hn hc
    match r, hn, hc with
    | [], _, _ => simp [cutE]
    | [c], _, hc =>
      by_cases h : c = 33
      · subst h
        have hx : x.head? ≠ some 33 := by rcases hc with hc | hc; · exact absurd rfl hc
                                          · exact hc
        cases x with
        | nil => simp [cutE]
        | cons d t =>
          have hd : d ≠ 33 := fun e => hx (by simp [e])
          simp [cutE, hd]
      · cases x with
        | nil => simp [cutE, h]
        | cons d t => simp [cutE, h]
    | c :: d :: t, hn, hc =>
      have hc2 : (d :: t).getLast? ≠ some 33 ∨ x.head? ≠ some 33 := by rwa [List.getLast?_cons_cons] at hc
      simp only [List.length_cons] at hn
      have l1 : i + 1 + (d :: t).length = i + (c :: d :: t).length := by simp; omega
      by_cases h : c = 33
      · by_cases h2 : d = 33
        · have hc3 : t.getLast? ≠ some 33 ∨ x.head? ≠ some 33 := by
            cases t with
            | nil => exact .inl (by simp)
            | cons e t => rwa [List.getLast?_cons_cons] at hc2
          have := ih t (i + 2) f (b ++ [33]) (by omega) hc3
          have l2 : i + 2 + t.length = i + (c :: d :: t).length := by simp; omega
          rw [l2] at this
          subst h; subst h2
          simp only [List.cons_append, cutE, if_true]
          exact this
        · have := ih (d :: t) (i + 1) (i + 1) [] (by simp; omega) hc2
          rw [l1] at this
          subst h
          simp only [List.cons_append, cutE, if_true, h2, if_false] at this ⊢
          rw [this]
      · have := ih (d :: t) (i + 1) f (b ++ [c]) (by simp; omega) hc2
        rw [l1] at this
        simp only [List.cons_append, cutE, h, if_false] at this ⊢
        exact this
theorem pieceL_sh (b : Bytes) (k f : Nat) : pieceL b (k + f) = shP k (pieceL b f) := by
  obtain ⟨n, e1, hn, _⟩ := trimL_split b
  unfold pieceL shP
  simp only [Prod.mk.injEq, true_and]
  rw [e1, List.length_drop]; omega
theorem cutE_sh (k : Nat) : ∀ (n : Nat) (r : Bytes) (i f : Nat) (b : Bytes), r.length ≤ n →
    cutE r (k + i) (k + f) b = ((cutE r i f b).1.map (shP k), k + (cutE r i f b).2.1, (cutE r i f b).2.2) := by
  intro n
  induction n with
  | zero =>
    intro r i f b hn
    have : r = [] := List.eq_nil_of_length_eq_zero (by omega)
    subst this
    simp [cutE]
  | succ n ih =>
    intro r i f b hn
    match r, hn with
    | [], _ => simp [cutE]
    | [c], _ =>
      by_cases h : c = 33
      · subst h; simp [cutE, pieceL_sh]; omega
      · simp [cutE, h]
    | c :: d :: t, hn =>
      simp only [List.length_cons] at hn
      by_cases h : c = 33
      · by_cases h2 : d = 33
        · have := ih t (i + 2) f (b ++ [33]) (by omega)
          subst h; subst h2
          simp only [cutE, if_true]
          rw [← this]
          congr 1
        · have := ih (d :: t) (i + 1) (i + 1) [] (by simp; omega)
          subst h
          simp only [cutE, if_true, h2, if_false, pieceL_sh]
          rw [show k + i + 1 = k + (i + 1) by omega, this]
          rfl
      · have := ih (d :: t) (i + 1) f (b ++ [c]) (by simp; omega)
        simp only [cutE, h, if_false]
        rw [show k + i + 1 = k + (i + 1) by omega, this]
theorem dropWhile_app {p : UInt8 → Bool} {l m : Bytes} (h : ∀ c ∈ l, p c = true) : (l ++ m).dropWhile p = m.dropWhile p := by
  induction l with
  | nil => rfl
  | cons c l ih =>
    rw [List.cons_append, List.dropWhile_cons, if_pos (h c (List.mem_cons_self ..))]
    exact ih fun x hx => h x (List.mem_cons_of_mem _ hx)
theorem pieceL_bl (B b : Bytes) (f : Nat) (h : ∀ c ∈ B, Lx.blank c = true) : pieceL (B ++ b) f = pieceL b (f + B.length) := by
  have e : Lib.trimLeftS (B ++ b) blanksL = Lib.trimLeftS b blanksL := dropWhile_app h
  unfold pieceL
  rw [e, List.length_append]
  simp only [Prod.mk.injEq, true_and]
  omega
/-- Blanks ahead of a piece don't count. -/
theorem cutE_bl (B : Bytes) (hB : ∀ c ∈ B, Lx.blank c = true) : ∀ (n : Nat) (r : Bytes) (i f : Nat) (b : Bytes), r.length ≤ n →
    (cutE r i f (B ++ b)).1 = (cutE r i (f + B.length) b).1 ∧ restL (cutE r i f (B ++ b)) = restL (cutE r i (f + B.length) b) := by
  intro n
  induction n with
  | zero =>
    intro r i f b hn
    have : r = [] := List.eq_nil_of_length_eq_zero (by omega)
    subst this
    exact ⟨rfl, pieceL_bl B b f hB⟩
  | succ n ih =>
    intro r i f b hn
    match r, hn with
    | [], _ => exact ⟨rfl, pieceL_bl B b f hB⟩
    | [c], _ =>
      by_cases h : c = 33
      · subst h; simp only [cutE, if_true]; exact ⟨by rw [pieceL_bl B b f hB], rfl⟩
      · simp only [cutE, h, if_false]
        refine ⟨by simp, ?_⟩
        show pieceL (B ++ b ++ [c]) f = pieceL (b ++ [c]) _
        rw [List.append_assoc]; exact pieceL_bl B _ f hB
    | c :: d :: t, hn =>
      simp only [List.length_cons] at hn
      by_cases h : c = 33
      · by_cases h2 : d = 33
        · subst h; subst h2
          simp only [cutE, if_true]
          rw [List.append_assoc]
          exact ih t (i + 2) f (b ++ [33]) (by omega)
        · subst h
          simp only [cutE, if_true, h2, if_false, pieceL_bl B b f hB]
          exact ⟨trivial, trivial⟩
      · simp only [cutE, h, if_false]
        rw [List.append_assoc]
        exact ih (d :: t) (i + 1) f (b ++ [c]) (by simp; omega)
theorem dropWhile_nil {p : UInt8 → Bool} : ∀ {l : Bytes}, l.dropWhile p = [] → ∀ c ∈ l, p c = true
  | [], _, c, hc => by cases hc
  | d :: l, h, c, hc => by
    rw [List.dropWhile_cons] at h
    cases hp : p d with
    | true =>
      rw [if_pos hp] at h
      rcases List.mem_cons.1 hc with rfl | hc
      · exact hp
      · exact dropWhile_nil h c hc
    | false => rw [hp] at h; cases h
/-- A piece without a text is blanks. -/
theorem piece_nil {b : Bytes} {f : Nat} (h : (pieceL b f).1 = []) : ∀ c ∈ b, Lx.blank c = true := by
  have h : Lib.trimRightS (Lib.trimLeftS b blanksL) blanksL = [] := h
  unfold Lib.trimRightS at h
  have h2 := dropWhile_nil (List.reverse_eq_nil_iff.1 h)
  obtain ⟨n, e1, hn, h3⟩ := trimL_split b
  intro c hc
  rw [← List.take_append_drop n b] at hc
  rcases List.mem_append.1 hc with hc | hc
  · exact h3 c hc
  · exact h2 c (by rw [List.mem_reverse, e1]; exact hc)
/-- Where the last piece begins. -/
theorem cutE_inv (s : Bytes) : ∀ (n : Nat) (i f : Nat) (b : Bytes), s.length - i ≤ n → i ≤ s.length → Inv s i f b → Inv s s.length (cutE (s.drop i) i f b).2.1 (cutE (s.drop i) i f b).2.2 := by
  intro n
  induction n with
  | zero =>
    intro i f b hn hi hv
    have : i = s.length := by omega
    subst this
    rw [List.drop_eq_nil_of_le (Nat.le_refl _)]
    exact hv
  | succ n ih =>
    intro i f b hn hi hv
    by_cases hil : i < s.length
    · have hc : s[i]? = some s[i] := List.getElem?_eq_getElem hil
      by_cases h33 : s[i] = 33
      · rw [h33] at hc
        by_cases hn2 : s[i + 1]? = some 33
        · have hi2 := (List.getElem?_eq_some_iff.1 hn2).1
          rw [cut_twice s i f b hc hn2]
          exact ih (i + 2) f _ (by omega) (by omega) (hv.snoc hc _ (by simp [cnt, Lib.countByte]))
        · rw [cut_end s i f b hc hn2]
          exact ih (i + 1) (i + 1) [] (by omega) (by omega) (Inv.nil _ _)
      · rw [cut_other s i f b _ hc h33]
        exact ih (i + 1) f _ (by omega) (by omega) (hv.snoc hc _ (by have : cnt [s[i]] = 0 := by unfold cnt Lib.countByte; rw [List.count_eq_zero]; simp; exact fun e => h33 e.symm
                                                                     omega))
    · have : i = s.length := by omega
      subst this
      rw [List.drop_eq_nil_of_le (Nat.le_refl _)]
      exact hv
theorem readP_app (qs : List Piece) : ∀ (ps : List Piece) (st : Rst), readP (ps ++ qs) st = match readP ps st with | .error x => .error x | .ok st' => readP qs st'
  | [], st => rfl
  | p :: r, st => by
    simp only [List.cons_append, readP]
    cases stepL p st with
    | error e => rfl
    | ok st' => exact readP_app qs r st'
def mvC (k : Nat) (c : Cls) : Cls := { c with at_ := k + c.at_ }
def mvS (k : Nat) (x : Src) : Src := { x with at_ := k + x.at_ }
/-- A state behind others' classes and texts, its own being further on. -/
def far (cs : List Cls) (ss : List Src) (k : Nat) (st : Rst) : Rst := ⟨cs ++ st.cs.map (mvC k), ss ++ st.ss.map (mvS k), st.opn⟩
theorem stepL_far (cs : List Cls) (ss : List Src) (k : Nat) (p : Piece) (st : Rst) : stepL (shP k p) (far cs ss k st) = match stepL p st with | .error e => .error e | .ok st' => .ok (far cs ss k st') := by
  unfold stepL
  by_cases h : p.1 = []
  · rw [if_pos h, if_pos (show (shP k p).1 = [] from h)]; rfl
  · rw [if_neg h, if_neg (show ¬ (shP k p).1 = [] from h)]
    show (match st.opn with | some (c, m) => _ | none => _) = _
    cases ho : st.opn with
    | some cm =>
      obtain ⟨c, m⟩ := cm
      simp [far, shP, mvS, List.append_assoc, ho]
    | none =>
      simp only
      unfold takeL
      show (match allR p.1 with | .error (_, e) => _ | .ok l => _) = _
      cases allR p.1 with
      | error x => rfl
      | ok l =>
        simp only
        by_cases h1 : fitsL shClass l = true
        · rw [if_pos h1, if_pos h1]
          by_cases h2 : classOk l = true
          · rw [if_pos h2, if_pos h2]
            simp [far, shP, mvC, classOf, List.append_assoc]
          · rw [if_neg h2, if_neg h2]
        · rw [if_neg h1, if_neg h1]
          by_cases h2 : fitsL shHeader l = true
          · rw [if_pos h2, if_pos h2]; rfl
          · rw [if_neg h2, if_neg h2]
            by_cases h3 : fitsL shMetas l = true
            · rw [if_pos h3, if_pos h3]; rfl
            · rw [if_neg h3, if_neg h3]
theorem readP_far (cs : List Cls) (ss : List Src) (k : Nat) : ∀ (ps : List Piece) (st : Rst), readP (ps.map (shP k)) (far cs ss k st) = match readP ps st with | .error (p, e) => .error (k + p, e) | .ok st' => .ok (far cs ss k st')
  | [], st => rfl
  | p :: r, st => by
    simp only [List.map_cons, readP, stepL_far]
    cases stepL p st with
    | error e => rfl
    | ok st' => exact readP_far cs ss k r st'
theorem far_nil (cs : List Cls) (ss : List Src) (k : Nat) (o : Option (Bytes × Bool)) : far cs ss k ⟨[], [], o⟩ = ⟨cs, ss, o⟩ := by simp [far]
theorem readR_ok {a : Bytes} {cs : List Cls} {ss : List Src} (h : readR a = .ok (cs, ss)) : a.length ≤ 65536 ∧ readP (cutE a 0 0 []).1 ⟨[], [], none⟩ = .ok ⟨cs, ss, none⟩ ∧ (restL (cutE a 0 0 [])).1 = [] := by
  unfold readR at h
  split at h
  · cases h
  · rename_i h1
    refine ⟨by omega, ?_⟩
    split at h
    · cases h
    · rename_i st hst
      split at h
      · cases h
      · rename_i h2
        split at h
        · cases h
        · rename_i h3
          cases h
          simp only [Decidable.not_not] at h2 h3
          refine ⟨?_, h2⟩
          rw [hst]
          obtain ⟨c, s, o⟩ := st
          simp only at h3
          subst h3
          rfl
/-- Two files: a's end is a whole one; no ! comes together with another one. -/
theorem readR_glue {a b : Bytes} {cs : List Cls} {ss : List Src} (h : readR a = .ok (cs, ss)) (hsz : (a ++ b).length ≤ 65536) (hc : a.getLast? ≠ some 33 ∨ b.head? ≠ some 33) :
    readR (a ++ b) = match readR b with | .error (p, e) => .error (a.length + p, e) | .ok (c2, s2) => .ok (cs ++ c2.map (mvC a.length), ss ++ s2.map (mvS a.length)) := by
  obtain ⟨h1, h2, h3⟩ := readR_ok h
  have hinv := cutE_inv a a.length 0 0 [] (by omega) (Nat.zero_le _) (Inv.nil _ _)
  rw [List.drop_zero] at hinv
  have hbl := piece_nil h3
  have happ := cutE_app b a.length a 0 0 [] (Nat.le_refl _) hc
  rw [Nat.zero_add] at happ
  have hlen := hinv.1
  rw [cnt_blank _ hbl, Nat.add_zero] at hlen
  obtain ⟨g1, g2⟩ := cutE_bl _ hbl b.length b a.length (cutE a 0 0 []).2.1 [] (Nat.le_refl _)
  rw [List.append_nil, ← hlen] at g1 g2
  have hsh := cutE_sh a.length b.length b 0 0 [] (Nat.le_refl _)
  rw [Nat.add_zero] at hsh
  have k1 : (cutE (a ++ b) 0 0 []).1 = (cutE a 0 0 []).1 ++ (cutE b 0 0 []).1.map (shP a.length) := by rw [happ]; simp only; rw [g1, hsh]
  have k2 : restL (cutE (a ++ b) 0 0 []) = shP a.length (restL (cutE b 0 0 [])) := by
    rw [happ]
    show restL (cutE b a.length _ _) = _
    rw [g2, hsh]
    exact pieceL_sh _ _ _
  rw [List.length_append] at hsz
  have hlab : (a ++ b).length = a.length + b.length := List.length_append
  unfold readR
  rw [if_neg (by omega), if_neg (by omega), k1, k2, readP_app, h2]
  simp only
  rw [← far_nil cs ss a.length none, readP_far]
  cases readP (cutE b 0 0 []).1 ⟨[], [], none⟩ with
  | error x => rfl
  | ok st =>
    simp only
    by_cases h4 : (restL (cutE b 0 0 [])).1 = []
    · have h4' : (shP a.length (restL (cutE b 0 0 []))).1 = [] := h4
      by_cases h5 : st.opn = none
      · have h5' : (far cs ss a.length st).opn = none := h5
        simp [h4, h4', h5, h5']
        simp [far]
      · have h5' : ¬ (far cs ss a.length st).opn = none := h5
        simp [h4, h4', h5, h5']
    · have h4' : ¬ (shP a.length (restL (cutE b 0 0 []))).1 = [] := h4
      simp [h4, shP]
theorem readR_nil_blank : readR [32] = .ok ([], []) := by rfl
/-- With a blank between where a ends in a !. -/
def joinL (a : Bytes) : Bytes := if a.getLast? = some 33 then a ++ [32] else a
theorem joinL_ok {a : Bytes} {cs : List Cls} {ss : List Src} (h : readR a = .ok (cs, ss)) (hsz : a.length < 65536) : readR (joinL a) = .ok (cs, ss) ∧ (joinL a).getLast? ≠ some 33 := by
  unfold joinL
  split
  · refine ⟨?_, by simp⟩
    have := readR_glue (b := [32]) h (by simp; omega) (.inr (by simp))
    rw [this, readR_nil_blank]
    simp
  · rename_i h1
    exact ⟨h, h1⟩
theorem readR_join {a b : Bytes} {cs : List Cls} {ss : List Src} (h : readR a = .ok (cs, ss)) (hsz : a.length + b.length < 65536) :
    readR (joinL a ++ b) = match readR b with | .error (p, e) => .error ((joinL a).length + p, e) | .ok (c2, s2) => .ok (cs ++ c2.map (mvC (joinL a).length), ss ++ s2.map (mvS (joinL a).length)) := by
  obtain ⟨h1, h2⟩ := joinL_ok h (by omega)
  refine readR_glue h1 ?_ (.inl h2)
  have : (joinL a).length ≤ a.length + 1 := by unfold joinL; split <;> simp
  rw [List.length_append]; omega
end Ck
end Go.Proofs.YthdigbkcffihkaaGreatDoor
namespace Go.Proofs.YthdigbkcffihkaaGreatDoor
namespace Ck
open Lx
theorem pieceL_le (b : Bytes) (f : Nat) : (pieceL b f).1.length ≤ b.length ∧ (pieceL b f).2 ≤ f + b.length := by
  obtain ⟨n, e1, hn, _⟩ := trimL_split b
  obtain ⟨m, e2, hm, _⟩ := trimR_split (b.drop n)
  unfold pieceL
  simp only
  rw [e1, e2, List.length_take, List.length_drop]
  omega
theorem cutE_le (s : Bytes) : ∀ (n : Nat) (i f : Nat) (b : Bytes), s.length - i ≤ n → i ≤ s.length → f + b.length ≤ i →
    (cutE (s.drop i) i f b).1.length ≤ s.length - i ∧ (∀ p ∈ (cutE (s.drop i) i f b).1, p.1.length ≤ s.length ∧ p.2 ≤ s.length) ∧ (restL (cutE (s.drop i) i f b)).1.length ≤ s.length ∧ (restL (cutE (s.drop i) i f b)).2 ≤ s.length := by
  intro n
  induction n with
  | zero =>
    intro i f b hn hi hv
    have := pieceL_le b f
    rw [List.drop_eq_nil_of_le (by omega)]
    refine ⟨by simp [cutE], by simp [cutE], ?_, ?_⟩
    · show (pieceL b f).1.length ≤ _; omega
    · show (pieceL b f).2 ≤ _; omega
  | succ n ih =>
    intro i f b hn hi hv
    by_cases hil : i < s.length
    · have hc : s[i]? = some s[i] := List.getElem?_eq_getElem hil
      by_cases h33 : s[i] = 33
      · rw [h33] at hc
        by_cases hn2 : s[i + 1]? = some 33
        · have hi2 := (List.getElem?_eq_some_iff.1 hn2).1
          rw [cut_twice s i f b hc hn2]
          obtain ⟨h1, h2, h3, h4⟩ := ih (i + 2) f (b ++ [33]) (by omega) (by omega) (by simp; omega)
          exact ⟨by omega, h2, h3, h4⟩
        · rw [cut_end s i f b hc hn2]
          obtain ⟨h1, h2, h3, h4⟩ := ih (i + 1) (i + 1) [] (by omega) (by omega) (by simp)
          have := pieceL_le b f
          refine ⟨by simp; omega, fun p hp => ?_, h3, h4⟩
          rcases List.mem_cons.1 hp with rfl | hp
          · exact ⟨by omega, by omega⟩
          · exact h2 p hp
      · rw [cut_other s i f b _ hc h33]
        obtain ⟨h1, h2, h3, h4⟩ := ih (i + 1) f (b ++ [s[i]]) (by omega) (by omega) (by simp; omega)
        exact ⟨by omega, h2, h3, h4⟩
    · have := pieceL_le b f
      rw [List.drop_eq_nil_of_le (by omega)]
      refine ⟨by simp [cutE], by simp [cutE], ?_, ?_⟩
      · show (pieceL b f).1.length ≤ _; omega
      · show (pieceL b f).2 ≤ _; omega
theorem cut_le (s : Bytes) : (cutE s 0 0 []).1.length ≤ s.length ∧ (∀ p ∈ (cutE s 0 0 []).1, p.1.length ≤ s.length ∧ p.2 ≤ s.length) ∧ (restL (cutE s 0 0 [])).1.length ≤ s.length ∧ (restL (cutE s 0 0 [])).2 ≤ s.length := by
  have := cutE_le s s.length 0 0 [] (by omega) (by omega) (by simp)
  simpa using this
/-- What is named keeps to the words of the lexer. -/
def Mild (n : Nat) (st : Rst) : Prop := st.cs.length + st.ss.length ≤ n
theorem stepL_mild {p : Piece} {st st' : Rst} {n : Nat} (h : stepL p st = .ok st') (hm : Mild n st) : Mild (n + 1) st' := by
  unfold Mild at *
  unfold stepL at h
  split at h
  · cases h; simp only; omega
  · split at h
    · cases h; simp only [List.length_append, List.length_singleton]; omega
    · unfold takeL at h
      split at h
      · cases h
      · split at h
        · split at h
          · cases h; simp only [List.length_append, List.length_singleton]; omega
          · cases h
        · split at h
          · cases h; simp only; omega
          · split at h
            · cases h; simp only; omega
            · cases h
end Ck
end Go.Proofs.YthdigbkcffihkaaGreatDoor
