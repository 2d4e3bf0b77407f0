/- ChunkReads, plain: what the reference of chunk does, on lists; it is what the program does. · The reference of chunk, the walk, 1: blank, chunk. · The reference of chunk, the walk, 2: named, words. · The reference of chunk, the walk, 3: is, class, header. · The reference of chunk, the walk, 4: class, where it is none (wip/gen/gen_ckv4.py prints this). -/
import Derived.Test.YthdigbkcffihkaaGreatDoorCkX
import Derived.Test.YthdigbkcffihkaaGreatDoorCkT
import Derived.Test.YthdigbkcffihkaaGreatDoorLxRM2
import Derived.Deep.DeepCutAuto
import Derived.Deep.CutBlock
set_option linter.unusedVariables false
namespace Go.Proofs.YthdigbkcffihkaaGreatDoor
namespace Ck
open Lx
/-- A piece's bytes from here on: what it has, the place of its end, did a '!' end it? -/
def scanR : Bytes → Nat → Bytes → Bytes × Nat × Bool
  | [], i, b => (b, i, false)
  | [c], i, b => if c = 33 then (b, i, true) else (b ++ [c], i + 1, false)
  | c :: d :: t, i, b => if c = 33 then (if d = 33 then scanR t (i + 2) (b ++ [33]) else (b, i, true)) else scanR (d :: t) (i + 1) (b ++ [c])
theorem scan_other (s : Bytes) (i : Nat) (b : Bytes) (c : UInt8) (hc : s[i]? = some c) (h : c ≠ 33) : scanR (s.drop i) i b = scanR (s.drop (i + 1)) (i + 1) (b ++ [c]) := by
  obtain ⟨hi, he⟩ := List.getElem?_eq_some_iff.1 hc
  rw [List.drop_eq_getElem_cons hi, he]
  cases hd : s.drop (i + 1) with
  | nil => simp [scanR, h]
  | cons d t => simp [scanR, h]
theorem scan_twice (s : Bytes) (i : Nat) (b : Bytes) (hc : s[i]? = some 33) (hn : s[i + 1]? = some 33) : scanR (s.drop i) i b = scanR (s.drop (i + 2)) (i + 2) (b ++ [33]) := by
  obtain ⟨hi, he⟩ := List.getElem?_eq_some_iff.1 hc
  obtain ⟨hi2, he2⟩ := List.getElem?_eq_some_iff.1 hn
  rw [List.drop_eq_getElem_cons hi, he, List.drop_eq_getElem_cons hi2, he2]
  simp [scanR]
theorem scan_end (s : Bytes) (i : Nat) (b : Bytes) (hc : s[i]? = some 33) (hn : s[i + 1]? ≠ some 33) : scanR (s.drop i) i b = (b, i, true) := by
  obtain ⟨hi, he⟩ := List.getElem?_eq_some_iff.1 hc
  rw [List.drop_eq_getElem_cons hi, he]
  cases hd : s.drop (i + 1) with
  | nil => simp [scanR]
  | cons d t =>
    have h2 : s[i + 1]? = some d := by
      have := congrArg (fun l => l[0]?) hd
      simpa [List.getElem?_drop] using this
    have hne : d ≠ 33 := fun e => hn (by rw [h2, e])
    simp [scanR, hne]
theorem scan_nil (s : Bytes) (i : Nat) (b : Bytes) (h : s.length ≤ i) : scanR (s.drop i) i b = (b, i, false) := by
  rw [List.drop_eq_nil_of_le h]; rfl
/-- The steps of a scan, by induction. -/
theorem scan_ind (s : Bytes) {P : Nat → Bytes → Prop} (h0 : ∀ i b, s.length ≤ i → P i b) (h1 : ∀ i b c, s[i]? = some c → c ≠ 33 → P (i + 1) (b ++ [c]) → P i b)
    (h2 : ∀ i b, s[i]? = some 33 → s[i + 1]? = some 33 → P (i + 2) (b ++ [33]) → P i b) (h3 : ∀ i b, s[i]? = some 33 → s[i + 1]? ≠ some 33 → P i b) : ∀ (n i : Nat) (b : Bytes), s.length - i ≤ n → P i b := by
  intro n
  induction n with
  | zero => intro i b hn; exact h0 i b (by omega)
  | succ n ih =>
    intro i b hn
    by_cases hil : i < s.length
    · have hc : s[i]? = some s[i] := List.getElem?_eq_getElem hil
      by_cases h33 : s[i] = 33
      · rw [h33] at hc
        by_cases hn2 : s[i + 1]? = some 33
        · exact h2 i b hc hn2 (ih (i + 2) _ (by omega))
        · exact h3 i b hc hn2
      · exact h1 i b _ hc h33 (ih (i + 1) _ (by omega))
    · exact h0 i b (by omega)
theorem scan_pre (s : Bytes) (p : Bytes) (n i : Nat) (b : Bytes) (hn : s.length - i ≤ n) : scanR (s.drop i) i (p ++ b) = (p ++ (scanR (s.drop i) i b).1, (scanR (s.drop i) i b).2) := by
  refine scan_ind s (P := fun i b => scanR (s.drop i) i (p ++ b) = (p ++ (scanR (s.drop i) i b).1, (scanR (s.drop i) i b).2)) ?_ ?_ ?_ ?_ n i b hn
  · intro i b h; rw [scan_nil s i _ h, scan_nil s i _ h]
  · intro i b c hc h ih; rw [scan_other s i _ c hc h, scan_other s i b c hc h, List.append_assoc]; exact ih
  · intro i b hc h ih; rw [scan_twice s i _ hc h, scan_twice s i b hc h, List.append_assoc]; exact ih
  · intro i b hc h; rw [scan_end s i _ hc h, scan_end s i b hc h]
/-- How far a scan comes. -/
theorem scan_le (s : Bytes) (n i : Nat) (b : Bytes) (hn : s.length - i ≤ n) (hi : i ≤ s.length) : i ≤ (scanR (s.drop i) i b).2.1 ∧ (scanR (s.drop i) i b).2.1 ≤ s.length ∧ ((scanR (s.drop i) i b).2.2 = true ↔ (scanR (s.drop i) i b).2.1 < s.length) ∧ (scanR (s.drop i) i b).1.length ≤ b.length + (s.length - i) := by
  refine scan_ind s (P := fun i b => i ≤ s.length → i ≤ (scanR (s.drop i) i b).2.1 ∧ (scanR (s.drop i) i b).2.1 ≤ s.length ∧ ((scanR (s.drop i) i b).2.2 = true ↔ (scanR (s.drop i) i b).2.1 < s.length) ∧ (scanR (s.drop i) i b).1.length ≤ b.length + (s.length - i)) ?_ ?_ ?_ ?_ n i b hn hi
  · intro i b h hi; rw [scan_nil s i _ h]; simp; omega
  · intro i b c hc h ih hi
    have h1 := (List.getElem?_eq_some_iff.1 hc).1
    obtain ⟨k1, k2, k3, k4⟩ := ih (by omega)
    rw [scan_other s i _ c hc h]
    refine ⟨by omega, k2, k3, ?_⟩
    rw [List.length_append, List.length_singleton] at k4; omega
  · intro i b hc h ih hi
    have h1 := (List.getElem?_eq_some_iff.1 h).1
    obtain ⟨k1, k2, k3, k4⟩ := ih (by omega)
    rw [scan_twice s i _ hc h]
    refine ⟨by omega, k2, k3, ?_⟩
    rw [List.length_append, List.length_singleton] at k4; omega
  · intro i b hc h hi
    have h1 := (List.getElem?_eq_some_iff.1 hc).1
    rw [scan_end s i _ hc h]
    simp; omega
/-- Cutting is scanning again and again. -/
theorem cut_scan (s : Bytes) (f n i : Nat) (b : Bytes) (hn : s.length - i ≤ n) : cutE (s.drop i) i f b =
    if (scanR (s.drop i) i b).2.2 = true then (pieceL (scanR (s.drop i) i b).1 f :: (cutE (s.drop ((scanR (s.drop i) i b).2.1 + 1)) ((scanR (s.drop i) i b).2.1 + 1) ((scanR (s.drop i) i b).2.1 + 1) []).1, (cutE (s.drop ((scanR (s.drop i) i b).2.1 + 1)) ((scanR (s.drop i) i b).2.1 + 1) ((scanR (s.drop i) i b).2.1 + 1) []).2)
    else ([], f, (scanR (s.drop i) i b).1) := by
  refine scan_ind s (P := fun i b => cutE (s.drop i) i f b =
    if (scanR (s.drop i) i b).2.2 = true then (pieceL (scanR (s.drop i) i b).1 f :: (cutE (s.drop ((scanR (s.drop i) i b).2.1 + 1)) ((scanR (s.drop i) i b).2.1 + 1) ((scanR (s.drop i) i b).2.1 + 1) []).1, (cutE (s.drop ((scanR (s.drop i) i b).2.1 + 1)) ((scanR (s.drop i) i b).2.1 + 1) ((scanR (s.drop i) i b).2.1 + 1) []).2)
    else ([], f, (scanR (s.drop i) i b).1)) ?_ ?_ ?_ ?_ n i b hn
  · intro i b h; rw [scan_nil s i _ h, List.drop_eq_nil_of_le h]; simp [cutE]
  · intro i b c hc h ih; rw [scan_other s i _ c hc h, cut_other s i f b c hc h]; exact ih
  · intro i b hc h ih; rw [scan_twice s i _ hc h, cut_twice s i f b hc h]; exact ih
  · intro i b hc h; rw [scan_end s i _ hc h, cut_end s i f b hc h]; simp
/-- The blanks at the start of a piece. -/
def blL (s : Bytes) (i : Nat) : Nat := ((s.drop i).takeWhile Lx.blank).length
theorem scan_bl (s : Bytes) : ∀ (n i : Nat) (b : Bytes), blL s i = n → scanR (s.drop i) i b = scanR (s.drop (i + n)) (i + n) (b ++ (s.drop i).takeWhile Lx.blank) := by
  intro n
  induction n with
  | zero =>
    intro i b h
    rw [Nat.add_zero, List.eq_nil_of_length_eq_zero h, List.append_nil]
  | succ n ih =>
    intro i b h
    unfold blL at h
    cases hd : s.drop i with
    | nil => rw [hd] at h; simp at h
    | cons c t =>
      have hlt : i < s.length := by
        have := congrArg List.length hd
        rw [List.length_drop, List.length_cons] at this; omega
      have hce : s[i] = c ∧ s.drop (i + 1) = t := by
        rw [List.drop_eq_getElem_cons hlt] at hd
        exact ⟨(List.cons.inj hd).1, (List.cons.inj hd).2⟩
      rw [hd] at h
      rw [List.takeWhile_cons] at h ⊢
      split at h
      · rename_i hb
        rw [if_pos hb] at *
        rw [List.length_cons] at h
        have hc33 : c ≠ 33 := by rintro rfl; revert hb; decide
        rw [← hd, scan_other s i b c (by rw [List.getElem?_eq_getElem hlt, hce.1]) hc33]
        have := ih (i + 1) (b ++ [c]) (by unfold blL; rw [hce.2]; omega)
        rw [this, hce.2, show i + 1 + n = i + (n + 1) by omega, List.append_assoc]
        rfl
      · simp at h
theorem blL_le (s : Bytes) (i : Nat) (h : i ≤ s.length) : i + blL s i ≤ s.length := by
  have h1 := (List.takeWhile_prefix (l := s.drop i) Lx.blank).length_le
  rw [List.length_drop] at h1
  unfold blL
  omega
/-- What the reference's chunk hands back: text, where it begins, the place behind, did a '!' end it? -/
def chunkR (s : Bytes) (i : Nat) : Bytes × Nat × Nat × Bool :=
  (Lib.trimRightS (scanR (s.drop (i + blL s i)) (i + blL s i) []).1 blanksL, i + blL s i, (scanR (s.drop (i + blL s i)) (i + blL s i) []).2.1 + 1, (scanR (s.drop (i + blL s i)) (i + blL s i) []).2.2)
theorem bl_head (s : Bytes) (i : Nat) (c : UInt8) (h : s[i + blL s i]? = some c) : Lx.blank c = false := by
  have h1 : (s.drop i).dropWhile Lx.blank = s.drop (i + blL s i) := by
    have := List.takeWhile_append_dropWhile (p := Lx.blank) (l := s.drop i)
    have h2 : (s.drop i).drop (blL s i) = (s.drop i).dropWhile Lx.blank := by
      conv => lhs; rw [← this]
      unfold blL
      rw [List.drop_left']
      rfl
    rw [← h2, List.drop_drop]
  cases hd : (s.drop i).dropWhile Lx.blank with
  | nil =>
    rw [h1] at hd
    have := (List.getElem?_eq_some_iff.1 h).1
    have h3 := congrArg List.length hd
    rw [List.length_drop, List.length_nil] at h3; omega
  | cons d t =>
    have h3 := List.head?_dropWhile_not Lx.blank (s.drop i)
    rw [hd] at h3
    rw [h1] at hd
    have h4 := congrArg (fun l => l[0]?) hd
    rw [List.getElem?_drop] at h4
    simp at h4
    rw [h4] at h
    cases h
    simpa using h3
/-- What a scan has begins with no blank, if it began at none. -/
theorem scan_head (s : Bytes) (j : Nat) (h : ∀ c, s[j]? = some c → Lx.blank c = false) : ∀ c t, (scanR (s.drop j) j []).1 = c :: t → Lx.blank c = false := by
  intro c t hct
  by_cases hj : j < s.length
  · have hc : s[j]? = some s[j] := List.getElem?_eq_getElem hj
    by_cases h33 : s[j] = 33
    · rw [h33] at hc
      by_cases hn : s[j + 1]? = some 33
      · rw [scan_twice s j [] hc hn, show ([] : Bytes) ++ [33] = [33] ++ [] from rfl, scan_pre s [33] _ (j + 2) [] (Nat.le_refl _)] at hct
        cases hct; decide
      · rw [scan_end s j [] hc hn] at hct
        cases hct
    · rw [scan_other s j [] _ hc h33, show ([] : Bytes) ++ [s[j]] = [s[j]] ++ [] from rfl, scan_pre s [s[j]] _ (j + 1) [] (Nat.le_refl _)] at hct
      cases hct
      exact h _ hc
  · rw [scan_nil s j [] (by omega)] at hct
    cases hct
theorem trimL_ahead (b : Bytes) (h : ∀ c t, b = c :: t → Lx.blank c = false) : Lib.trimLeftS b blanksL = b := by
  cases b with
  | nil => rfl
  | cons c t =>
    have hc := h c t rfl
    unfold Lib.trimLeftS
    rw [List.dropWhile_cons, if_neg]
    intro hh
    have : Lx.blank c = true := hh
    rw [hc] at this
    cases this
theorem tw_blank : ∀ (l : Bytes), ∀ c ∈ l.takeWhile Lx.blank, Lx.blank c = true
  | [], c, h => by cases h
  | d :: l, c, h => by
    rw [List.takeWhile_cons] at h
    split at h
    · rename_i hd
      rcases List.mem_cons.1 h with rfl | h
      · exact hd
      · exact tw_blank l c h
    · cases h
theorem chunk_pieceL (s : Bytes) (i : Nat) : pieceL (scanR (s.drop i) i []).1 i = ((chunkR s i).1, (chunkR s i).2.1) ∧ (scanR (s.drop i) i []).2 = ((chunkR s i).2.2.1 - 1, (chunkR s i).2.2.2) := by
  have h1 := scan_bl s _ i [] rfl
  rw [List.nil_append] at h1
  have hp : (s.drop i).takeWhile Lx.blank = (s.drop i).takeWhile Lx.blank ++ [] := (List.append_nil _).symm
  rw [hp, scan_pre s _ _ (i + blL s i) [] (Nat.le_refl _)] at h1
  rw [h1]
  refine ⟨?_, by simp [chunkR]⟩
  dsimp only
  rw [pieceL_bl _ _ i (tw_blank (s.drop i))]
  unfold pieceL
  rw [trimL_ahead _ (scan_head s _ (bl_head s i))]
  show (Lib.trimRightS _ blanksL, _) = (Lib.trimRightS _ blanksL, i + blL s i)
  congr 1
  show i + ((s.drop i).takeWhile Lx.blank).length + _ - _ = i + blL s i
  unfold blL
  omega
theorem chunk_cut (s : Bytes) (i : Nat) : cutE (s.drop i) i i [] =
    if (chunkR s i).2.2.2 = true then (((chunkR s i).1, (chunkR s i).2.1) :: (cutE (s.drop (chunkR s i).2.2.1) (chunkR s i).2.2.1 (chunkR s i).2.2.1 []).1, (cutE (s.drop (chunkR s i).2.2.1) (chunkR s i).2.2.1 (chunkR s i).2.2.1 []).2)
    else ([], i, (scanR (s.drop i) i []).1) := by
  obtain ⟨h1, h2⟩ := chunk_pieceL s i
  rw [cut_scan s i _ i [] (Nat.le_refl _), h1, h2]
  rw [show (chunkR s i).2.2.1 - 1 + 1 = (chunkR s i).2.2.1 by simp [chunkR]]
theorem chunk_le (s : Bytes) (i : Nat) (hi : i ≤ s.length) : i ≤ (chunkR s i).2.1 ∧ (chunkR s i).2.1 ≤ s.length ∧ (chunkR s i).2.1 < (chunkR s i).2.2.1 ∧ (chunkR s i).2.2.1 ≤ s.length + 1 ∧ ((chunkR s i).2.2.2 = true ↔ (chunkR s i).2.2.1 ≤ s.length) ∧ (chunkR s i).1.length ≤ s.length := by
  have h1 := blL_le s i hi
  obtain ⟨k1, k2, k3, k4⟩ := scan_le s _ (i + blL s i) [] (Nat.le_refl _) h1
  obtain ⟨m, e2, hm, _⟩ := trimR_split (scanR (s.drop (i + blL s i)) (i + blL s i) []).1
  unfold chunkR
  dsimp only
  rw [e2, List.length_take]
  simp only [List.length_nil, Nat.zero_add] at k4
  refine ⟨by omega, by omega, by omega, by omega, ?_, by omega⟩
  rw [k3]; omega
/-- The reference's way of reading: piece for piece. -/
def goR (s : Bytes) : Nat → Nat → Rst → Except Err Rst
  | 0, _, st => .ok st
  | n + 1, i, st =>
    if (chunkR s i).2.2.2 = true then
      match stepL ((chunkR s i).1, (chunkR s i).2.1) st with
      | .error e => .error ((chunkR s i).2.1, e)
      | .ok st' => goR s n (chunkR s i).2.2.1 st'
    else if (chunkR s i).1 ≠ [] then .error ((chunkR s i).2.1, 4) else .ok st
def endR (s : Bytes) (x : Except Err Rst) : Except Err (List Cls × List Src) :=
  match x with
  | .error e => .error e
  | .ok st => if st.opn ≠ none then .error (s.length, 4) else .ok (st.cs, st.ss)
theorem goR_cut (s : Bytes) : ∀ (n i : Nat) (st : Rst), s.length - i < n → i ≤ s.length → endR s (goR s n i st) =
    match readP (cutE (s.drop i) i i []).1 st with
    | .error x => .error x
    | .ok st' => if (restL (cutE (s.drop i) i i [])).1 ≠ [] then .error ((restL (cutE (s.drop i) i i [])).2, 4) else if st'.opn ≠ none then .error (s.length, 4) else .ok (st'.cs, st'.ss) := by
  intro n
  induction n with
  | zero => intro i st h; omega
  | succ n ih =>
    intro i st hn hi
    obtain ⟨h1, h2⟩ := chunk_pieceL s i
    obtain ⟨k1, k2, k3, k4, k5, k6⟩ := chunk_le s i hi
    have hr : ∀ (p : Piece) (y : List Piece × Nat × Bytes), restL (p :: y.1, y.2) = restL y := fun p y => rfl
    rw [chunk_cut s i]
    unfold goR
    by_cases he : (chunkR s i).2.2.2 = true
    · rw [if_pos he, if_pos he, hr]
      have hb := k5.1 he
      unfold readP
      dsimp only
      cases hs : stepL ((chunkR s i).1, (chunkR s i).2.1) st with
      | error e => rfl
      | ok st' => exact ih _ st' (by omega) hb
    · rw [if_neg he, if_neg he]
      have hrr : restL (([] : List Piece), i, (scanR (s.drop i) i []).1) = ((chunkR s i).1, (chunkR s i).2.1) := h1
      rw [hrr]
      unfold readP endR
      by_cases hne : (chunkR s i).1 ≠ []
      · rw [if_pos hne]; dsimp only; rw [if_pos hne]
      · rw [if_neg hne]; dsimp only; rw [if_neg hne]
/-- What the reference hands back is what the program hands back. -/
theorem readR_go (s : Bytes) (h : s.length ≤ 65536) : readR s = endR s (goR s (s.length + 1) 0 ⟨[], [], none⟩) := by
  rw [goR_cut s (s.length + 1) 0 _ (by omega) (Nat.zero_le _), List.drop_zero]
  unfold readR
  rw [if_neg (by omega)]
  cases readP (cutE s 0 0 []).1 ⟨[], [], none⟩ <;> rfl
/-- Words as the reference finds them: what is left, the word so far. -/
def wordsG : Bytes → Bytes → List Bytes
  | [], cur => if cur = [] then [] else [cur]
  | c :: t, cur => if Lx.blank c = true then (if cur = [] then wordsG t [] else cur :: wordsG t []) else wordsG t (cur ++ [c])
theorem wordsG_bl : ∀ (bl : Bytes), (∀ c ∈ bl, Lx.blank c = true) → ∀ cur, wordsG bl cur = if cur = [] then [] else [cur]
  | [], _, _ => rfl
  | c :: t, h, cur => by
    have h1 := wordsG_bl t (fun x hx => h x (List.mem_cons_of_mem _ hx)) []
    unfold wordsG
    rw [if_pos (h c (List.mem_cons_self ..)), h1]
    rfl
theorem wordsG_suf (bl : Bytes) (hb : ∀ c ∈ bl, Lx.blank c = true) : ∀ (r cur : Bytes), wordsG (r ++ bl) cur = wordsG r cur
  | [], cur => by rw [List.nil_append, wordsG_bl bl hb]; rfl
  | c :: t, cur => by
    rw [List.cons_append]
    unfold wordsG
    rw [wordsG_suf bl hb t [], wordsG_suf bl hb t (cur ++ [c])]
theorem wordsG_pre : ∀ (bl : Bytes), (∀ c ∈ bl, Lx.blank c = true) → ∀ r, wordsG (bl ++ r) [] = wordsG r []
  | [], _, _ => rfl
  | c :: t, h, r => by
    rw [List.cons_append]
    conv => lhs; unfold wordsG
    rw [if_pos (h c (List.mem_cons_self ..)), if_pos rfl]
    exact wordsG_pre t (fun x hx => h x (List.mem_cons_of_mem _ hx)) r
theorem wordsG_word : ∀ (u : Bytes), (∀ c ∈ u, Lx.blank c = false) → ∀ r cur, wordsG (u ++ r) cur = wordsG r (cur ++ u)
  | [], _, r, cur => by simp
  | c :: t, h, r, cur => by
    rw [List.cons_append]
    conv => lhs; unfold wordsG
    rw [if_neg (by rw [h c (List.mem_cons_self ..)]; decide), wordsG_word t (fun x hx => h x (List.mem_cons_of_mem _ hx)) r (cur ++ [c]), List.append_assoc]
    rfl
theorem tw_nb : ∀ (l : Bytes), ∀ c ∈ l.takeWhile (fun c => !Lx.blank c), Lx.blank c = false
  | [], c, h => by cases h
  | d :: l, c, h => by
    rw [List.takeWhile_cons] at h
    split at h
    · rename_i hd
      rcases List.mem_cons.1 h with rfl | h
      · simpa using hd
      · exact tw_nb l c h
    · cases h
theorem trimL_pre (l : Bytes) : ∃ bl, l = bl ++ Lib.trimLeftS l blanksL ∧ ∀ c ∈ bl, Lx.blank c = true := by
  obtain ⟨n, h1, h2, h3⟩ := trimL_split l
  exact ⟨l.take n, by rw [h1, List.take_append_drop], h3⟩
theorem trimR_suf (l : Bytes) : ∃ bl, l = Lib.trimRightS l blanksL ++ bl ∧ ∀ c ∈ bl, Lx.blank c = true := by
  obtain ⟨n, h1, h2, h3⟩ := trimR_split l
  exact ⟨l.drop n, by rw [h1, List.take_append_drop], h3⟩
theorem wordsF_G : ∀ (f : Nat) (s : Bytes), s.length < f → (∀ c t, s = c :: t → Lx.blank c = false) → wordsF f s = wordsG s []
  | 0, s, h, _ => by omega
  | f + 1, s, h, ha => by
    cases s with
    | nil => rfl
    | cons c t =>
      have hc := ha c t rfl
      have hsp := List.takeWhile_append_dropWhile (p := fun c => !Lx.blank c) (l := c :: t)
      have htw : (c :: t).takeWhile (fun c => !Lx.blank c) = c :: t.takeWhile (fun c => !Lx.blank c) := by rw [List.takeWhile_cons, if_pos (by rw [hc]; rfl)]
      have hdw : (c :: t).dropWhile (fun c => !Lx.blank c) = t.dropWhile (fun c => !Lx.blank c) := by rw [List.dropWhile_cons, if_pos (by rw [hc]; rfl)]
      unfold wordsF
      rw [if_neg (by simp)]
      conv => rhs; rw [← hsp]
      rw [wordsG_word _ (tw_nb _), List.nil_append, htw, hdw]
      obtain ⟨bl, hb1, hb2⟩ := trimL_pre (t.dropWhile (fun c => !Lx.blank c))
      have hle : (t.dropWhile (fun c => !Lx.blank c)).length ≤ t.length := (List.dropWhile_suffix (fun c => !Lx.blank c) (l := t)).length_le
      have hle2 : (Lib.trimLeftS (t.dropWhile (fun c => !Lx.blank c)) blanksL).length ≤ (t.dropWhile (fun c => !Lx.blank c)).length := by
        have := congrArg List.length hb1
        rw [List.length_append] at this; omega
      rw [List.length_cons] at h
      rw [wordsF_G f _ (by omega) (fun x y hxy => by
        have := trimL_head _ x y hxy
        unfold nb at this
        simpa using this)]
      cases hd : t.dropWhile (fun c => !Lx.blank c) with
      | nil => rfl
      | cons x y =>
        have hx : Lx.blank x = true := by
          have := List.head?_dropWhile_not (fun c => !Lx.blank c) t
          rw [hd] at this
          simpa using this
        conv => rhs; unfold wordsG
        rw [if_pos hx, if_neg (by simp)]
        rw [hd] at hb1
        congr 1
        have h2 : wordsG (x :: y) [] = wordsG y [] := by
          conv => lhs; unfold wordsG
          rw [if_pos hx, if_pos rfl]
        rw [← h2]
        conv => rhs; rw [hb1]
        rw [wordsG_pre bl hb2]
theorem wordsL_G (s : Bytes) : wordsL s = wordsG s [] := by
  obtain ⟨b1, h1, h2⟩ := trimR_suf s
  obtain ⟨b2, h3, h4⟩ := trimL_pre (Lib.trimRightS s blanksL)
  have e1 : wordsG s [] = wordsG (Lib.trimLeftS (Lib.trimRightS s blanksL) blanksL) [] := by
    conv => lhs; rw [h1]
    rw [wordsG_suf b1 h2]
    conv => lhs; rw [h3]
    rw [wordsG_pre b2 h4]
  rw [e1]
  unfold wordsL Lib.trimS
  refine wordsF_G _ _ ?_ (fun x y hxy => by
    have := trimL_head _ x y hxy
    unfold nb at this
    simpa using this)
  have l1 := trimL_le (Lib.trimRightS s blanksL)
  have l2 := trimR_le s
  omega
def is1 (t : Tok) (k : Nat) (w : Bytes) : Bool := t.kind == k && t.word == w
/-- A definition's shape, as the reference says it. -/
def classSh (l : List Tok) : Bool := match l with
  | [a, b, c, d, e, _] => a.kind == 1 && is1 b 2 wSub && c.kind == 5 && is1 d 2 wFields && e.kind == 4
  | _ => false
/-- A header's: of which class, of its class? -/
def headSh (l : List Tok) : Option (Bytes × Bool) := match l with
  | [a, b, _] => if a.kind == 1 && is1 b 1 wMethods then some (a.word, false) else none
  | [a, b, c, _] => if a.kind == 1 && is1 b 1 wClass && is1 c 1 wMethods then some (a.word, true) else none
  | _ => none
theorem last_kind {l l' : List Tok} {t u : Tok} (h : l ++ [u] = l' ++ [t]) (ht : t.kind = 0) : u.kind = 0 := by
  have := List.append_inj_right' h rfl
  cases this
  exact ht
theorem fits_class (l l' : List Tok) (t : Tok) (h : l = l' ++ [t]) (ht : t.kind = 0) : fitsL shClass l = classSh l := by
  match l, h with
  | [a, b, c, d, e, f], h =>
    have hf : f.kind = 0 := last_kind (l := [a, b, c, d, e]) h ht
    simp [fitsL, fits1, shClass, classSh, is1, hf, wSub, wFields, Bool.and_assoc]
  | [], h => rfl
  | [a], h => simp [fitsL, shClass, classSh]
  | [a, b], h => simp [fitsL, shClass, classSh]
  | [a, b, c], h => simp [fitsL, shClass, classSh]
  | [a, b, c, d], h => simp [fitsL, shClass, classSh]
  | [a, b, c, d, e], h => simp [fitsL, shClass, classSh]
  | a :: b :: c :: d :: e :: f :: g :: r, h => simp [fitsL, shClass, classSh]
theorem fits_head (l l' : List Tok) (t : Tok) (h : l = l' ++ [t]) (ht : t.kind = 0) :
    headSh l = if fitsL shHeader l = true then some (wd l 0, false) else if fitsL shMetas l = true then some (wd l 0, true) else none := by
  match l, h with
  | [a, b, c], h =>
    have hf : c.kind = 0 := last_kind (l := [a, b]) h ht
    simp [fitsL, fits1, shHeader, shMetas, headSh, is1, hf, wMethods, wd]
  | [a, b, c, d], h =>
    have hf : d.kind = 0 := last_kind (l := [a, b, c]) h ht
    simp [fitsL, fits1, shHeader, shMetas, headSh, is1, hf, wMethods, wClass, wd, and_assoc]
  | [], h => rfl
  | [a], h => simp [fitsL, shHeader, shMetas, headSh]
  | [a, b], h => simp [fitsL, shHeader, shMetas, headSh]
  | a :: b :: c :: d :: e :: r, h => simp [fitsL, shHeader, shMetas, headSh]
theorem takeL_R (p : Piece) (st : Rst) : takeL p st = match allR p.1 with
    | .error (_, e) => .error e
    | .ok l => if classSh l = true ∧ classOk l = true then .ok { st with cs := st.cs ++ [classOf l p.2] } else match headSh l with
      | some o => .ok { st with opn := some o }
      | none => .error 3 := by
  unfold takeL
  cases hl : allR p.1 with
  | error e => rfl
  | ok l =>
    obtain ⟨l', t, h1, h2, _⟩ := allR_last _ _ hl
    dsimp only
    rw [fits_class l l' t h1 h2, fits_head l l' t h1 h2]
    cases hc : classSh l with
    | true =>
      have h6 : l.length = 6 := by
        rw [← fits_class l l' t h1 h2] at hc
        by_cases he : shClass.length = l.length
        · exact he.symm
        · rw [fits_len shClass l he] at hc; cases hc
      have e1 : fitsL shHeader l = false := fits_len _ _ (by rw [h6]; decide)
      have e2 : fitsL shMetas l = false := fits_len _ _ (by rw [h6]; decide)
      rw [e1, e2]
      cases classOk l <;> simp
    | false =>
      cases fitsL shHeader l <;> cases fitsL shMetas l <;> simp
end Ck
end Go.Proofs.YthdigbkcffihkaaGreatDoor
namespace Go.Proofs.YthdigbkcffihkaaGreatDoor
open Go.RowKit
namespace Ck
open Lx
theorem rblank_any (c : UInt8) (w : World) : Calls Tryz.prog 32 #[.int .u8 (c.toNat : Int)] w (Done (.bool (Lx.blank c)) w) := by
  by_cases h1 : c = 32
  · subst h1
    go_enter Tryz.func32, Tryz.ntmps32
    go_wp2
    go_ret
    exact ⟨rfl, rfl⟩
  by_cases h2 : c = 9
  · subst h2
    go_enter Tryz.func32, Tryz.ntmps32
    go_wp2
    go_ret
    exact ⟨rfl, rfl⟩
  by_cases h3 : c = 10
  · subst h3
    go_enter Tryz.func32, Tryz.ntmps32
    go_wp2
    go_ret
    exact ⟨rfl, rfl⟩
  by_cases h4 : c = 13
  · subst h4
    go_enter Tryz.func32, Tryz.ntmps32
    go_wp2
    go_ret
    exact ⟨rfl, rfl⟩
  have g1 : ((c.toNat : Int) == 32) = false := bne_u8 c 32 (by omega) h1
  have g2 : ((c.toNat : Int) == 9) = false := bne_u8 c 9 (by omega) h2
  have g3 : ((c.toNat : Int) == 10) = false := bne_u8 c 10 (by omega) h3
  have g4 : ((c.toNat : Int) == 13) = false := bne_u8 c 13 (by omega) h4
  have hb : Lx.blank c = false := by unfold Lx.blank blanksL; simp [h1, h2, h3, h4]
  rw [hb]
  clear h1 h2 h3 h4 hb
  go_enter Tryz.func32, Tryz.ntmps32
  go_wp2
  go_ret
  exact ⟨rfl, rfl⟩
theorem blL_step (s : ByteArray) (k : Nat) (h : k < s.size) : blL s.data.toList k = if Lx.blank s[k] = true then blL s.data.toList (k + 1) + 1 else 0 := by
  unfold blL
  rw [drop_cons s k h, List.takeWhile_cons]
  split <;> simp
theorem blL_end (s : ByteArray) (k : Nat) (h : s.size ≤ k) : blL s.data.toList k = 0 := by
  unfold blL
  rw [List.drop_eq_nil_of_le (show s.data.toList.length ≤ k from h)]; rfl
theorem trimR_step (b : Bytes) (n : Nat) (h : n < b.length) (hb : Lx.blank b[n] = true) : Lib.trimRightS (b.take (n + 1)) blanksL = Lib.trimRightS (b.take n) blanksL := by
  unfold Lib.trimRightS
  rw [List.take_succ_eq_append_getElem h, List.reverse_append, List.reverse_singleton, List.singleton_append, List.dropWhile_cons, if_pos (show blanksL.contains b[n] = true from hb)]
theorem trimR_stop (b : Bytes) (n : Nat) (h : n < b.length) (hb : Lx.blank b[n] = false) : Lib.trimRightS (b.take (n + 1)) blanksL = b.take (n + 1) := by
  unfold Lib.trimRightS
  rw [List.take_succ_eq_append_getElem h, List.reverse_append, List.reverse_singleton, List.singleton_append, List.dropWhile_cons, if_neg (by show ¬ Lx.blank b[n] = true; rw [hb]; decide)]
  simp
theorem ownB_take {B : Nat} {w : World} {bo : Option Addr} {bc n : Nat} {l : Bytes} (h : OwnB B w (.slice bo l.length bc) l) (hn : n ≤ l.length) : OwnB B w (.slice bo n bc) (l.take n) := by
  obtain ⟨h1, h2⟩ := h
  have hl : (l.take n).length = n := by rw [List.length_take]; omega
  unfold OwnB
  rw [hl]
  refine ⟨by rw [List.length_map, hl]; omega, ?_⟩
  rcases h2 with ⟨he, h0⟩ | ⟨g, cap, cur, he, hb, hg, hnc, hcm, hsz, htk⟩
  · injection he with e1 e2 e3
    have : n = 0 := by omega
    subst this
    exact .inl ⟨by rw [e1, e3], rfl⟩
  · cases he
    refine .inr ⟨g, bc, cur, rfl, hb, hg, by omega, hcm, hsz, ?_⟩
    rw [List.map_take, ← htk, List.take_take]
    congr 1
    omega
theorem ownB_cell {B : Nat} {w : World} {g n bc : Nat} {l : Bytes} (h : OwnB B w (.slice (some ⟨g, 0, none⟩) n bc) l) (i : Nat) (hi : i < l.length) : w.cell? ⟨g, i, none⟩ = some (.int .u8 ((l[i].toNat : Nat) : Int)) := by
  have h1 := World.ownsRow.cells h (g := g) rfl i (Value.int .u8 ((l[i].toNat : Nat) : Int)) (by rw [List.getElem?_map, List.getElem?_eq_getElem hi]; rfl)
  have e : (⟨g, 0, none⟩ : Addr).add i = ⟨g, i, none⟩ := by unfold Addr.add; split <;> simp_all
  rw [e] at h1
  exact h1
/-- What the reference's chunk hands back. -/
def RChunked (x : Bytes × Nat × Nat × Bool) (w : World) (e : Ending) (w' : World) : Prop :=
  Below w.heap.size w w' ∧ e = .returned (.tuple #[.string ⟨x.1.toArray⟩, .int .i64 (x.2.1 : Int), .int .i64 (x.2.2.1 : Int), .bool x.2.2.2])
set_option maxRecDepth 100000 in
set_option maxHeartbeats 3200000 in
theorem rchunk_any (s : ByteArray) (i : Nat) (w : World) (hs : s.size ≤ 1099511627) (hi : i ≤ s.size) :
    Calls Tryz.prog 19 #[.string s, .int .i64 (i : Int)] w (RChunked (chunkR s.data.toList i) w) := by
  obtain ⟨E, hE⟩ : ∃ E, chunkR s.data.toList i = E := ⟨_, rfl⟩
  rw [hE]
  have HE := Lib.hid hE
  clear hE
  obtain ⟨i0, hi', hz0, hz1, hz2⟩ := info_parts (show (Tryz.prog.info? U8).map (fun i => (i.zero, i.size, i.bytes)) = some (some (.int .u8 0), 1, 1) by kernel_rfl)
  have t37 : Tryz.prog.underlying 76 = some (.slice U8) := by kernel_rfl
  have HBL := Lib.hid (fun (c : UInt8) (v : World) => rblank_any c v)
  go_enter Tryz.func19, Tryz.ntmps19
  go_upto_block 0 with fail
  obtain ⟨at_, hat⟩ : ∃ a, i + blL s.data.toList i = a := ⟨_, rfl⟩
  have hle : at_ ≤ s.size := by rw [← hat]; exact blL_le s.data.toList i hi
  have HAT := Lib.hid hat
  clear hat
  go_cut [8] (fun s8 wx => s8 = .int .i64 (at_ : Int) ∧ wx = w)
  case first =>
    go_wp2_with fail
    go_loopw [8] (fun y wr => ∃ k : Nat, y = .int .i64 (k : Int) ∧ i ≤ k ∧ k ≤ s.size ∧ Hid (k + blL s.data.toList k = at_) ∧ wr = w) (fun y _ => s.size - (intOf y).toNat)
    case atStart => exact ⟨i, rfl, Nat.le_refl _, hi, HAT, rfl⟩
    case round =>
      obtain ⟨k, rfl, hk1, hk2, hkb, rfl⟩ := hrel
      have hkw : IntKind.i64.wrap ((k : Int) + 1) = (k : Int) + 1 := IntWalk.i64_in _ (by omega)
      by_cases hkn : k < s.size
      · have hd1 : decide ((k : Int) < (s.size : Int)) = true := by simpa using hkn
        have hst := blL_step s k hkn
        cases hb : Lx.blank s[k] with
        | true =>
          rw [hb, if_pos rfl] at hst
          have HN : Hid (k + 1 + blL s.data.toList (k + 1) = at_) := Lib.hid (by rw [← hkb.out, hst]; omega)
          have hB := fun v : World => HBL.out s[k] v
          rw [hb] at hB
          have HB := Lib.hid hB
          clear hB hst hb
          go_wp2_with fail
          refine (HB.out _).mono ?_; rintro e w' ⟨rfl, rfl⟩
          go_wp2_with fail
          exact ⟨⟨k + 1, vint (by omega), by omega, by omega, HN, by first | trivial | rfl⟩, by simp only [intOf]; omega⟩
        | false =>
          rw [hb, if_neg (by decide)] at hst
          have hka : Hid (k = at_) := Lib.hid (by rw [← hkb.out, hst]; omega)
          have hB := fun v : World => HBL.out s[k] v
          rw [hb] at hB
          have HB := Lib.hid hB
          clear hB hst hb
          go_wp2_with fail
          refine (HB.out _).mono ?_; rintro e w' ⟨rfl, rfl⟩
          go_wp2_with fail
          go_meet
          exact ⟨by rw [hka.out], rfl⟩
      · have hd1 : decide ((k : Int) < (s.size : Int)) = false := by simpa using hkn
        have hka : Hid (k = at_) := Lib.hid (by rw [← hkb.out, blL_end s k (by omega)]; omega)
        go_wp2_with fail
        go_meet
        exact ⟨by rw [hka.out], rfl⟩
  case rest =>
  obtain ⟨rfl, hwc⟩ := hcut
  rw [hwc]
  clear hwc
  have hY0 : E = (Lib.trimRightS (scanR (s.data.toList.drop at_) at_ []).1 blanksL, at_, (scanR (s.data.toList.drop at_) at_ []).2.1 + 1, (scanR (s.data.toList.drop at_) at_ []).2.2) := by rw [← HE.out]; unfold chunkR; rw [HAT.out]
  obtain ⟨⟨Yb, ye, yf⟩, hY⟩ : ∃ Y, scanR (s.data.toList.drop at_) at_ [] = Y := ⟨_, rfl⟩
  obtain ⟨y1, y2, y3, y4⟩ := scan_le s.data.toList _ at_ [] (Nat.le_refl _) hle
  rw [hY] at hY0 y1 y2 y3 y4
  dsimp only at hY0 y1 y2 y3 y4
  simp only [List.length_nil, Nat.zero_add] at y4
  rw [show s.data.toList.length = s.size from rfl] at y2 y3 y4
  have HY0 := Lib.hid hY0
  have HY := Lib.hid hY
  clear hY0 hY
  go_upto_block 2 with fail
  go_cut [9, 10] (fun s9 s10 wx => s10 = .int .i64 (ye : Int) ∧ OwnB w.heap.size wx s9 Yb ∧ Below w.heap.size w wx)
  case first =>
    go_wp2_with fail
    go_loopw [9, 10] (fun v y wr => ∃ (k : Nat) (b : Bytes), y = .int .i64 (k : Int) ∧ k ≤ s.size ∧ b.length ≤ k ∧ Hid (scanR (s.data.toList.drop k) k b = (Yb, ye, yf)) ∧ OwnB w.heap.size wr v b ∧ Below w.heap.size w wr) (fun _ y _ => s.size - (intOf y).toNat)
    case atStart => exact ⟨at_, [], rfl, hle, by simp, HY, World.ownsRow_nil w _ _ _, Below.refl _ _⟩
    case round =>
      obtain ⟨k, b, rfl, hk, hbk, hsc, hown, hbel⟩ := hrel
      have hkw : IntKind.i64.wrap ((k : Int) + 1) = (k : Int) + 1 := IntWalk.i64_in _ (by omega)
      by_cases hlt : k < s.size
      · have hki : (k : Int) < (s.size : Int) := by omega
        have hck : s.data.toList[k]? = some s[k] := at_some s k hlt
        by_cases hc : s[k] = 33
        · have hcb : ((s[k].toNat : Int) == 33) = true := by rw [hc]; rfl
          rw [hc] at hck
          by_cases h1 : k + 1 = s.size
          · have hk1 : ((k : Int) + 1 == (s.size : Int)) = true := by rw [beq_iff_eq]; omega
            have hend := hsc.out
            rw [scan_end s.data.toList k b hck (by rw [at_none s (k + 1) (by omega)]; simp)] at hend
            cases hend
            clear hc hck hsc
            go_wp2_with fail
            go_meet
            exact ⟨rfl, hown, hbel⟩
          · have h1' : k + 1 < s.size := by omega
            have hk1 : ((k : Int) + 1 == (s.size : Int)) = false := by rw [beq_eq_false_iff_ne]; omega
            have hk1i : (k : Int) + 1 < (s.size : Int) := by omega
            have h4 : (0 : Int) ≤ (k : Int) + 1 := by omega
            have h5 : ((k : Int) + 1).toNat = k + 1 := by omega
            have hkw2 : IntKind.i64.wrap ((k : Int) + 1 + 1) = (k : Int) + 1 + 1 := IntWalk.i64_in _ (by omega)
            by_cases hd : s[k + 1] = 33
            · have hdb : ((s[k + 1].toNat : Int) != 33) = false := by rw [hd]; rfl
              have hnx := hsc.out
              rw [scan_twice s.data.toList k b hck (by rw [at_some s (k + 1) h1', hd])] at hnx
              have HN := Lib.hid hnx
              have hdv : ((s[k + 1].toNat : Int)) = 33 := by rw [hd]; rfl
              clear hc hck hsc hnx hd
              go_wp2_with (at_builtin; refine wpList_append_own _ rfl _ _ 76 rfl w.heap.size U8 i0 (.int .u8 0) 1 1 t37 hi' hz0 hz1 hz2 rfl (by decide) _ _ _ rfl (World.ownsRow.alloc hown _) ⟨wr.heap.size, 0, none⟩ 1 1 [.int .u8 33] rfl rfl (Lx.cells1 wr U8 _) (by intro u hu; simp at hu; subst hu; rfl) (by unfold maxLen; omega) (by omega) (by have := hbel.size; simp; omega) ?_; intro v' w5 hown5 hgrow5 _; have ho5 := Lib.hid hown5; have hb5 := (hbel.alloc hbel.size _).grown hgrow5 (by have := hbel.size; simp; omega) (fun k hk => (hown.lt k hk).1); clear hown5 hgrow5)
              go_wp2_with fail
              exact ⟨⟨k + 2, b ++ [33], vint (by omega), by omega, by simp; omega, HN, ownB_snoc (c := 33) ho5.out, hb5⟩, by simp only [intOf]; omega⟩
            · have hdb : ((s[k + 1].toNat : Int) != 33) = true := by
                have := bne_u8 s[k + 1] 33 (by omega) hd
                simpa [bne] using this
              have hend := hsc.out
              rw [scan_end s.data.toList k b hck (by rw [at_some s (k + 1) h1']; simpa using hd)] at hend
              cases hend
              clear hc hck hsc hd
              go_wp2_with fail
              go_meet
              exact ⟨rfl, hown, hbel⟩
        · have hcb : ((s[k].toNat : Int) == 33) = false := bne_u8 _ 33 (by omega) hc
          have hnx := hsc.out
          rw [scan_other s.data.toList k b _ hck hc] at hnx
          have HN := Lib.hid hnx
          obtain ⟨c, hcc⟩ : ∃ c, s[k] = c := ⟨_, rfl⟩
          rw [hcc] at HN hcb
          clear hc hck hsc hnx
          go_wp2_with (at_builtin; refine wpList_append_own _ rfl _ _ 76 rfl w.heap.size U8 i0 (.int .u8 0) 1 1 t37 hi' hz0 hz1 hz2 rfl (by decide) _ _ _ rfl (World.ownsRow.alloc hown _) ⟨wr.heap.size, 0, none⟩ 1 1 [.int .u8 (c.toNat : Int)] rfl rfl (Lx.cells1 wr U8 _) (by intro u hu; simp at hu; subst hu; rfl) (by unfold maxLen; omega) (by omega) (by have := hbel.size; simp; omega) ?_; intro v' w5 hown5 hgrow5 _; have ho5 := Lib.hid hown5; have hb5 := (hbel.alloc hbel.size _).grown hgrow5 (by have := hbel.size; simp; omega) (fun k hk => (hown.lt k hk).1); clear hown5 hgrow5)
          go_wp2_with fail
          exact ⟨⟨k + 1, b ++ [c], vint (by omega), by omega, by simp; omega, HN, ownB_snoc ho5.out, hb5⟩, by simp only [intOf]; omega⟩
      · have hki : ¬ (k : Int) < (s.size : Int) := by omega
        have hend := hsc.out
        rw [scan_nil s.data.toList k b (by show s.size ≤ k; omega)] at hend
        clear hsc
        cases hend
        go_wp2_with fail
        go_meet
        exact ⟨rfl, hown, hbel⟩
  case rest =>
  obtain ⟨rfl, hown, hbel⟩ := hcut
  obtain ⟨bo, bc, rfl, hbo⟩ := own_slice hown
  obtain ⟨nb, hnb⟩ : ∃ n, Yb.length = n := ⟨_, rfl⟩
  have HOWN := Lib.hid hown
  rw [hnb] at hbo ⊢
  have HNB := Lib.hid hnb
  obtain ⟨tl, htl⟩ : ∃ n, (Lib.trimRightS Yb blanksL).length = n := ⟨_, rfl⟩
  have hnb2 : nb ≤ 1099511627 := by rw [← hnb]; omega
  have htl2 : tl ≤ nb := by rw [← htl, ← hnb]; exact trimR_le Yb
  have htk : Yb.take tl = Lib.trimRightS Yb blanksL := by
    obtain ⟨m, e2, hm, _⟩ := trimR_split Yb
    rw [e2] at htl ⊢
    rw [List.length_take] at htl
    rw [← htl, Nat.min_eq_left hm]
  have HTL := Lib.hid htl
  have HTK := Lib.hid htk
  clear hown hnb htl htk
  go_upto_block 4 with fail
  go_cut [11] (fun s11 wx => s11 = .int .i64 (tl : Int) ∧ wx = wc)
  case first =>
    go_wp2_with fail
    go_loopw [11] (fun y wr => ∃ n : Nat, y = .int .i64 (n : Int) ∧ n ≤ nb ∧ Hid (Lib.trimRightS (Yb.take n) blanksL = Lib.trimRightS Yb blanksL) ∧ wr = wc) (fun y _ => (intOf y).toNat)
    case atStart => exact ⟨nb, rfl, Nat.le_refl _, Lib.hid (by rw [List.take_of_length_le (by rw [HNB.out]; exact Nat.le_refl _)]), rfl⟩
    case round =>
      obtain ⟨n, rfl, hn, htr, rfl⟩ := hrel
      by_cases hn0 : n = 0
      · have hg0 : (n : Int) = 0 := by omega
        have HT0 : Hid (n = tl) := Lib.hid (by
          have h1 := htr.out
          have h2 := HTL.out
          rw [← h1, hn0] at h2
          simp [Lib.trimRightS] at h2
          omega)
        go_wp2_with fail
        go_meet
        exact ⟨by rw [← HT0.out, hn0], rfl⟩
      · have hd0 : 0 < n := by omega
        obtain ⟨m, hm⟩ : ∃ m, n = m + 1 := ⟨n - 1, by omega⟩
        subst hm
        have hw0 : IntKind.i64.wrap (((m + 1 : Nat) : Int) - 1) = (m : Int) := by rw [show (((m + 1 : Nat) : Int) - 1) = (m : Int) by omega]; exact IntWalk.i64_in _ (by omega)
        obtain ⟨gb, rfl, hb1, hb2, hb3, hb4⟩ := hbo (by omega)
        have hml : m < Yb.length := by rw [HNB.out]; omega
        have c0 := ownB_cell (n := nb) (by have := HOWN.out; rw [HNB.out] at this; exact this) m hml
        obtain ⟨c, hc⟩ : ∃ c, Yb[m] = c := ⟨_, rfl⟩
        rw [hc] at c0
        have hB := fun v : World => HBL.out c v
        cases hb : Lx.blank c with
        | true =>
          rw [hb] at hB
          have HB := Lib.hid hB
          have HN : Hid (Lib.trimRightS (Yb.take m) blanksL = Lib.trimRightS Yb blanksL) := Lib.hid (by rw [← htr.out, trimR_step Yb m hml (by rw [hc]; exact hb)])
          clear hB hb hc htr
          go_wp2_with fail
          refine (HB.out _).mono ?_; rintro e w' ⟨rfl, rfl⟩
          go_wp2_with fail
          exact ⟨⟨m, rfl, by omega, HN, by first | trivial | rfl⟩, by simp only [intOf]; omega⟩
        | false =>
          rw [hb] at hB
          have HB := Lib.hid hB
          have HT0 : Hid (m + 1 = tl) := Lib.hid (by
            have h1 := htr.out
            have h2 := HTL.out
            rw [← h1, trimR_stop Yb m hml (by rw [hc]; exact hb), List.length_take] at h2
            omega)
          clear hB hb hc htr
          go_wp2_with fail
          refine (HB.out _).mono ?_; rintro e w' ⟨rfl, rfl⟩
          go_wp2_with fail
          go_meet
          exact ⟨by rw [← HT0.out]; exact vint (by omega), rfl⟩
  case rest =>
  obtain ⟨rfl, hwc⟩ := hcut
  rw [hwc]
  clear hwc
  have hot := ownB_take HOWN.out (by rw [HNB.out]; exact htl2)
  have hcv := ownB_conv hot
  rw [HTK.out] at hcv
  have hyf : decide (ye < s.size) = yf := by
    cases yf with
    | true => exact decide_eq_true (y3.1 rfl)
    | false => exact decide_eq_false (fun h => by have := y3.2 h; cases this)
  have HYF := Lib.hid hyf
  clear hyf
  go_wp2_with fail
  refine bodyPost_ret (v := .tuple #[.string ⟨(Lib.trimRightS Yb blanksL).toArray⟩, .int .i64 (at_ : Int), .int .i64 ((ye : Int) + 1), .bool (decide (ye < s.size))]) (by simp [results, Tryz.results19, go_sem]) rfl ?_
  rw [HY0.out, HYF.out]
  exact ⟨hbel, rfl⟩
end Ck
end Go.Proofs.YthdigbkcffihkaaGreatDoor
namespace Go.Proofs.YthdigbkcffihkaaGreatDoor
open Go.RowKit
namespace Ck
open Lx
theorem rnamed_any (s : ByteArray) (w : World) (hs : s.size ≤ 140737488355327) : Calls Tryz.prog 30 #[.string s] w (Done (.bool (named s.data.toList)) w) := by
  have hA := fun v : World => rarity_any (s := s) (w := v) hs
  have hn : named s.data.toList = (arityP s.data.toList == 0) := rfl
  rw [hn]
  obtain ⟨z, hz⟩ : ∃ z, arityP s.data.toList = z := ⟨_, rfl⟩
  rw [hz] at hA ⊢
  have HA := Lib.hid hA
  clear hA hn hz
  go_enter Tryz.func30, Tryz.ntmps30
  go_wp2_with fail
  refine (HA.out _).mono ?_; rintro e w' ⟨rfl, rfl⟩
  go_wp2_with fail
  go_ret
  exact ⟨rfl, rfl⟩
theorem cur_snoc (l : Bytes) (f i : Nat) (hf : f ≤ i) (hi : i < l.length) : (l.drop f).take (i + 1 - f) = (l.drop f).take (i - f) ++ [l[i]] := by
  rw [show i + 1 - f = i - f + 1 by omega, List.take_succ_eq_append_getElem (by rw [List.length_drop]; omega)]
  congr 2
  rw [List.getElem_drop]
  congr 1
  omega
theorem ext_list (s : ByteArray) (f i : Nat) (hi : i ≤ s.size) : (s.extract f i).data.toList = (s.data.toList.drop f).take (i - f) := by
  simp [ByteArray.extract, ByteArray.copySlice]
set_option maxRecDepth 100000 in
set_option maxHeartbeats 1600000 in
theorem rwords_any (s : ByteArray) (w : World) (hs : s.size ≤ 1099511627) :
    Calls Tryz.prog 42 #[.string s] w (Worded (wordsL s.data.toList) w) := by
  rw [wordsL_G]
  obtain ⟨E, hE⟩ : ∃ E, wordsG s.data.toList [] = E := ⟨_, rfl⟩
  rw [hE]
  have HE := Lib.hid hE
  clear hE
  obtain ⟨i0, hi, hz0, hz1, hz2⟩ := info_parts (show (Tryz.prog.info? ST).map (fun i => (i.zero, i.size, i.bytes)) = some (some (.string ⟨#[]⟩), 1, 16) by kernel_rfl)
  have tsl : Tryz.prog.underlying 38 = some (.slice ST) := by kernel_rfl
  have HBL := Lib.hid (fun (c : UInt8) (v : World) => rblank_any c v)
  go_enter Tryz.func42, Tryz.ntmps42
  go_wp2_with fail
  go_loopw [3, 4, 5] (fun v y z wr => ∃ (f k : Nat) (ws : List Bytes), y = .int .i64 (f : Int) ∧ z = .int .i64 (k : Int) ∧ f ≤ k ∧ k ≤ s.size + 1 ∧ ws.length ≤ k ∧ Hid ((k ≤ s.size ∧ ws ++ wordsG (s.data.toList.drop k) ((s.data.toList.drop f).take (k - f)) = E) ∨ (k = s.size + 1 ∧ ws = E)) ∧ wr.ownsRow w.heap.size ST 1 v ws.length (ws.map strV) ∧ Below w.heap.size w wr) (fun _ _ z _ => s.size + 1 - (intOf z).toNat)
  case atStart => exact ⟨0, 0, [], rfl, rfl, Nat.le_refl _, by omega, Nat.le_refl _, Lib.hid (.inl ⟨Nat.zero_le _, by simpa using HE.out⟩), World.ownsRow_nil _ _ _ _, Below.refl _ _⟩
  case round =>
    obtain ⟨f, k, ws, rfl, rfl, hfk, hk, hwl, hrel2, hown, hbel⟩ := hrel
    have hkw : IntKind.i64.wrap ((k : Int) + 1) = (k : Int) + 1 := IntWalk.i64_in _ (by omega)
    by_cases hks : k ≤ s.size
    · have hd0 : decide ((k : Int) ≤ (s.size : Int)) = true := decide_eq_true (by omega)
      have hG : ws ++ wordsG (s.data.toList.drop k) ((s.data.toList.drop f).take (k - f)) = E := by
        rcases hrel2.out with h | h
        · exact h.2
        · omega
      clear hrel2
      by_cases hke : k = s.size
      · subst hke
        have hdn : s.data.toList.drop s.size = [] := List.drop_eq_nil_of_le (by show s.size ≤ s.size; omega)
        rw [hdn] at hG
        have hG2 : ws ++ (if (s.data.toList.drop f).take (s.size - f) = [] then [] else [(s.data.toList.drop f).take (s.size - f)]) = E := hG
        by_cases hfk2 : f < s.size
        · have hfi : (f : Int) < (s.size : Int) := by omega
          obtain ⟨wd, hwd⟩ : ∃ wd, s.extract f s.size = wd := ⟨_, rfl⟩
          have hwl2 : strV ((s.data.toList.drop f).take (s.size - f)) = .string wd := by rw [← hwd, ← ext_list s f s.size (by omega)]; unfold strV; rw [Array.toArray_toList]
          rw [if_neg (by intro h; have := congrArg List.length h; rw [List.length_take, List.length_drop] at this; have e : s.data.toList.length = s.size := rfl; simp only [List.length_nil] at this; omega)] at hG2
          have HG := Lib.hid hG2
          have HW := Lib.hid hwl2
          clear hG hG2 hwl2 hdn
          go_wp2_with (at_builtin; refine wpList_append_own _ rfl _ _ 38 rfl w.heap.size ST i0 (.string ⟨#[]⟩) 1 16 tsl hi hz0 hz1 hz2 rfl (by decide) _ _ _ rfl (hown.alloc _) ⟨wr.heap.size, 0, none⟩ 1 1 [.string wd] rfl rfl (cells1 wr ST _) (by intro u hu; simp at hu; subst hu; rfl) (by unfold maxLen; omega) (by omega) (by have := hbel.size; simp; omega) ?_; intro v' w5 hown5 hgrow5 _; have hb5 := (hbel.alloc hbel.size _).grown hgrow5 (by have := hbel.size; simp; omega) (fun k hk => (hown.lt k hk).1); have ho5 := Lib.hid hown5; clear hown5 hgrow5)
          go_wp2_with fail
          exact ⟨⟨s.size + 1, s.size + 1, ws ++ [(s.data.toList.drop f).take (s.size - f)], vint (by omega), vint (by omega), Nat.le_refl _, by omega, by simp; omega, Lib.hid (.inr ⟨by omega, HG.out⟩), by have := ho5.out; rw [List.length_append, List.map_append, List.map_singleton, HW.out]; exact this, hb5⟩, by simp only [intOf]; omega⟩
        · have hfi : ¬ (f : Int) < (s.size : Int) := by omega
          rw [if_pos (by rw [show s.size - f = 0 by omega]; rfl), List.append_nil] at hG2
          have HG := Lib.hid hG2
          clear hG hG2 hdn
          go_wp2_with fail
          exact ⟨⟨s.size + 1, s.size + 1, ws, vint (by omega), vint (by omega), Nat.le_refl _, by omega, by omega, Lib.hid (.inr ⟨by omega, HG.out⟩), hown, hbel⟩, by simp only [intOf]; omega⟩
      · have hlt : k < s.size := by omega
        have he1 : ((k : Int) == (s.size : Int)) = false := by rw [beq_eq_false_iff_ne]; omega
        rw [drop_cons s k hlt] at hG
        have hB := fun v : World => HBL.out s[k] v
        cases hb : Lx.blank s[k] with
        | true =>
          rw [hb] at hB
          have HB := Lib.hid hB
          unfold wordsG at hG
          rw [if_pos hb] at hG
          by_cases hfk2 : f < k
          · have hfi : (f : Int) < (k : Int) := by omega
            obtain ⟨wd, hwd⟩ : ∃ wd, s.extract f k = wd := ⟨_, rfl⟩
            have hwl2 : strV ((s.data.toList.drop f).take (k - f)) = .string wd := by rw [← hwd, ← ext_list s f k (by omega)]; unfold strV; rw [Array.toArray_toList]
            rw [if_neg (by intro h; have := congrArg List.length h; rw [List.length_take, List.length_drop] at this; have e : s.data.toList.length = s.size := rfl; simp only [List.length_nil] at this; omega)] at hG
            have HG := Lib.hid hG
            have HW := Lib.hid hwl2
            clear hG hwl2 hB hb
            go_wp2_with fail
            refine (HB.out _).mono ?_; rintro e w' ⟨rfl, rfl⟩
            go_wp2_with (at_builtin; refine wpList_append_own _ rfl _ _ 38 rfl w.heap.size ST i0 (.string ⟨#[]⟩) 1 16 tsl hi hz0 hz1 hz2 rfl (by decide) _ _ _ rfl (hown.alloc _) ⟨wr.heap.size, 0, none⟩ 1 1 [.string wd] rfl rfl (cells1 wr ST _) (by intro u hu; simp at hu; subst hu; rfl) (by unfold maxLen; omega) (by omega) (by have := hbel.size; simp; omega) ?_; intro v' w5 hown5 hgrow5 _; have hb5 := (hbel.alloc hbel.size _).grown hgrow5 (by have := hbel.size; simp; omega) (fun k hk => (hown.lt k hk).1); have ho5 := Lib.hid hown5; clear hown5 hgrow5)
            go_wp2_with fail
            exact ⟨⟨k + 1, k + 1, ws ++ [(s.data.toList.drop f).take (k - f)], vint (by omega), vint (by omega), Nat.le_refl _, by omega, by simp; omega, Lib.hid (.inl ⟨by omega, by rw [List.append_assoc, Nat.sub_self, List.take_zero]; exact HG.out⟩), by have := ho5.out; rw [List.length_append, List.map_append, List.map_singleton, HW.out]; exact this, hb5⟩, by simp only [intOf]; omega⟩
          · have hfi : ¬ (f : Int) < (k : Int) := by omega
            rw [if_pos (by rw [show k - f = 0 by omega]; rfl)] at hG
            have HG := Lib.hid hG
            clear hG hB hb
            go_wp2_with fail
            refine (HB.out _).mono ?_; rintro e w' ⟨rfl, rfl⟩
            go_wp2_with fail
            exact ⟨⟨k + 1, k + 1, ws, vint (by omega), vint (by omega), Nat.le_refl _, by omega, by omega, Lib.hid (.inl ⟨by omega, by rw [Nat.sub_self, List.take_zero]; exact HG.out⟩), hown, hbel⟩, by simp only [intOf]; omega⟩
        | false =>
          rw [hb] at hB
          have HB := Lib.hid hB
          unfold wordsG at hG
          rw [if_neg (by rw [hb]; decide), ← (show (s.data.toList.drop f).take (k + 1 - f) = (s.data.toList.drop f).take (k - f) ++ [s[k]] from cur_snoc s.data.toList f k hfk hlt)] at hG
          have HG := Lib.hid hG
          clear hG hB hb
          go_wp2_with fail
          refine (HB.out _).mono ?_; rintro e w' ⟨rfl, rfl⟩
          go_wp2_with fail
          exact ⟨⟨f, k + 1, ws, rfl, vint (by omega), by omega, by omega, by omega, Lib.hid (.inl ⟨by omega, HG.out⟩), hown, hbel⟩, by simp only [intOf]; omega⟩
    · have hd0 : decide ((k : Int) ≤ (s.size : Int)) = false := decide_eq_false (by omega)
      have hG : ws = E := by
        rcases hrel2.out with h | h
        · omega
        · exact h.2
      clear hrel2
      go_wp2_with fail
      go_ret
      rw [← hG]
      exact ⟨hbel, _, rfl, hown⟩
end Ck
end Go.Proofs.YthdigbkcffihkaaGreatDoor
namespace Go.Proofs.YthdigbkcffihkaaGreatDoor
open Go.RowKit
namespace Ck
open Lx
variable {w : World}
theorem ris_any (kd nn aa : Int) (wd u : ByteArray) (k : Int) (w : World) :
    Calls Tryz.prog 41 #[.agg #[.int .i64 kd, .string wd, .int .i64 nn, .int .i64 aa], .int .i64 k, .string u] w (Back (.bool (kd == k && wd.toList == u.toList)) w) := by
  have hb : Below w.heap.size w (w.alloc (.cells #[.int .i64 kd, .string wd, .int .i64 nn, .int .i64 aa] R9)) := (Below.refl _ _).alloc (Nat.le_refl _) _
  by_cases hk : kd = k
  · have h1 : (kd == k) = true := by rw [beq_iff_eq]; exact hk
    rw [h1, Bool.true_and]
    clear hk
    go_enter Tryz.func41, Tryz.ntmps41
    go_wp2_with fail
    go_ret
    exact ⟨rfl, hb⟩
  · have h1 : (kd == k) = false := by rw [beq_eq_false_iff_ne]; exact hk
    rw [h1, Bool.false_and]
    clear hk
    go_enter Tryz.func41, Tryz.ntmps41
    go_wp2_with fail
    go_ret
    exact ⟨rfl, hb⟩
theorem is_eq (t : Tok) (k : Nat) (u : Bytes) : ((t.kind : Int) == (k : Int) && (⟨t.word.toArray⟩ : ByteArray).toList == (⟨u.toArray⟩ : ByteArray).toList) = is1 t k u := by
  unfold is1
  rw [ByteArray.toList_eq, ByteArray.toList_eq]
  congr 1
  rw [Bool.eq_iff_iff]
  simp
  omega
theorem ris1 (t : Tok) (k : Nat) (u : Bytes) (v : World) : Calls Tryz.prog 41 #[.agg #[.int .i64 (t.kind : Int), .string ⟨t.word.toArray⟩, .int .i64 t.num, .int .i64 (t.at_ : Int)], .int .i64 (k : Int), .string ⟨u.toArray⟩] v (Back (.bool (is1 t k u)) v) := by
  rw [← is_eq t k u]
  exact ris_any _ _ _ _ _ _ v
/-- What header hands back. -/
def RHeaded (x : Option (Bytes × Bool)) (w : World) (e : Ending) (w' : World) : Prop :=
  Below w.heap.size w w' ∧ e = .returned (match x with
    | some (c, m) => .tuple #[.agg #[strV c, .bool m, .string ⟨#[]⟩, .int .i64 0], .bool true]
    | none => .tuple #[.agg #[.string ⟨#[]⟩, .bool false, .string ⟨#[]⟩, .int .i64 0], .bool false])
set_option maxRecDepth 100000 in
set_option maxHeartbeats 1600000 in
theorem rhead3 {g cap : Nat} {a b c : Tok} (hl : Rows_ g [a, b, c] w) (hg : g < w.heap.size) (hc : 3 ≤ cap) :
    Calls Tryz.prog 22 #[.slice (some ⟨g, 0, none⟩) 3 cap] w (RHeaded (headSh [a, b, c]) w) := by
  obtain ⟨k0, w0, n0, p0⟩ := hl 0 _ rfl
  obtain ⟨k1, w1, n1, p1⟩ := hl 1 _ rfl
  obtain ⟨k2, w2, n2, p2⟩ := hl 2 _ rfl
  simp only [Nat.reduceMul, Nat.reduceAdd] at k0 w0 n0 p0 k1 w1 n1 p1 k2 w2 n2 p2
  by_cases ha : a.kind = 1
  · have hae : ((a.kind : Int) == 1) = true := by rw [beq_iff_eq]; omega
    cases hi1 : is1 b 1 wMethods with
    | true =>
      have hE : headSh [a, b, c] = some (a.word, false) := by simp [headSh, ha, hi1]
      rw [hE]
      have hC1 := fun v => ris1 b 1 wMethods v
      rw [hi1] at hC1
      have HC1 := Lib.hid hC1
      clear hC1 hi1 hE ha
      go_enter Tryz.func22, Tryz.ntmps22
      go_wp2_with fail
      have hr0 := Blk.made (T := RST) (cs := #[.string ⟨#[]⟩, .bool false, .string ⟨#[]⟩, .int .i64 0]) w
      have hB0 : Below w.heap.size w (w.alloc (.cells #[.string ⟨#[]⟩, .bool false, .string ⟨#[]⟩, .int .i64 0] RST)) := (Below.refl _ _).alloc (Nat.le_refl _) _
      have hne : ¬ g = w.heap.size := by omega
      refine (HC1.out _).mono ?_; rintro e v1 ⟨rfl, hb1⟩
      have hr1 := hr0.below hb1 hr0.lt
      have hB1 := hB0.trans (hb1.mono hB0.size)
      obtain ⟨q1k0, q1w0, q1n0, q1p0⟩ := (rows_below hl hB1 hg) 0 _ rfl
      obtain ⟨q1k1, q1w1, q1n1, q1p1⟩ := (rows_below hl hB1 hg) 1 _ rfl
      obtain ⟨q1k2, q1w2, q1n2, q1p2⟩ := (rows_below hl hB1 hg) 2 _ rfl
      simp only [Nat.reduceMul, Nat.reduceAdd] at q1k0 q1w0 q1n0 q1p0 q1k1 q1w1 q1n1 q1p1 q1k2 q1w2 q1n2 q1p2
      have e10 := hr1.c 0 _ rfl
      have e11 := hr1.c 1 _ rfl
      have e12 := hr1.c 2 _ rfl
      have e13 := hr1.c 3 _ rfl
      have ef1 := hr1.fz
      have hg1 := Nat.lt_of_lt_of_le hg hB1.size
      have hrl1 := hr1.lt
      go_wp2_with fail
      have hrF := ((((hr1.set_ 0 (.string ⟨a.word.toArray⟩) _ rfl).set_ 1 (.bool false) _ rfl).set_ 2 (.string ⟨#[]⟩) _ rfl).set_ 3 (.int .i64 0) _ rfl)
      have hBF := Lib.hid ((((hB1.setCell (p := ⟨w.heap.size, 0, none⟩) (Nat.le_refl _) (.string ⟨a.word.toArray⟩)).setCell (p := ⟨w.heap.size, 1, none⟩) (Nat.le_refl _) (.bool false)).setCell (p := ⟨w.heap.size, 2, none⟩) (Nat.le_refl _) (.string ⟨#[]⟩)).setCell (p := ⟨w.heap.size, 3, none⟩) (Nat.le_refl _) (.int .i64 0))
      obtain ⟨V, hV⟩ : ∃ V, ((((v1.setCell ⟨w.heap.size, 0, none⟩ (.string ⟨a.word.toArray⟩)).setCell ⟨w.heap.size, 1, none⟩ (.bool false)).setCell ⟨w.heap.size, 2, none⟩ (.string ⟨#[]⟩)).setCell ⟨w.heap.size, 3, none⟩ (.int .i64 0)) = V := ⟨_, rfl⟩
      rw [hV] at hrF hBF ⊢
      clear hV
      have z0 := hrF.c 0 _ rfl
      have z1 := hrF.c 1 _ rfl
      have z2 := hrF.c 2 _ rfl
      have z3 := hrF.c 3 _ rfl
      refine bodyPost_ret (v := .tuple #[.agg #[.string ⟨a.word.toArray⟩, .bool false, .string ⟨#[]⟩, .int .i64 0], .bool true]) (by simp [results, Tryz.results22, go_sem, z0, z1, z2, z3]) rfl ?_
      exact ⟨hBF.out, rfl⟩
    | false =>
      have hE : headSh [a, b, c] = none := by simp [headSh, ha, hi1]
      rw [hE]
      have hC1 := fun v => ris1 b 1 wMethods v
      rw [hi1] at hC1
      have HC1 := Lib.hid hC1
      clear hC1 hi1 hE ha
      go_enter Tryz.func22, Tryz.ntmps22
      go_wp2_with fail
      have hr0 := Blk.made (T := RST) (cs := #[.string ⟨#[]⟩, .bool false, .string ⟨#[]⟩, .int .i64 0]) w
      have hB0 : Below w.heap.size w (w.alloc (.cells #[.string ⟨#[]⟩, .bool false, .string ⟨#[]⟩, .int .i64 0] RST)) := (Below.refl _ _).alloc (Nat.le_refl _) _
      have hne : ¬ g = w.heap.size := by omega
      refine (HC1.out _).mono ?_; rintro e v1 ⟨rfl, hb1⟩
      have hr1 := hr0.below hb1 hr0.lt
      have hB1 := hB0.trans (hb1.mono hB0.size)
      obtain ⟨q1k0, q1w0, q1n0, q1p0⟩ := (rows_below hl hB1 hg) 0 _ rfl
      obtain ⟨q1k1, q1w1, q1n1, q1p1⟩ := (rows_below hl hB1 hg) 1 _ rfl
      obtain ⟨q1k2, q1w2, q1n2, q1p2⟩ := (rows_below hl hB1 hg) 2 _ rfl
      simp only [Nat.reduceMul, Nat.reduceAdd] at q1k0 q1w0 q1n0 q1p0 q1k1 q1w1 q1n1 q1p1 q1k2 q1w2 q1n2 q1p2
      have e10 := hr1.c 0 _ rfl
      have e11 := hr1.c 1 _ rfl
      have e12 := hr1.c 2 _ rfl
      have e13 := hr1.c 3 _ rfl
      have ef1 := hr1.fz
      have hg1 := Nat.lt_of_lt_of_le hg hB1.size
      have hrl1 := hr1.lt
      go_wp2_with fail
      have hrF := ((((hr1.set_ 0 (.string ⟨#[]⟩) _ rfl).set_ 1 (.bool false) _ rfl).set_ 2 (.string ⟨#[]⟩) _ rfl).set_ 3 (.int .i64 0) _ rfl)
      have hBF := Lib.hid ((((hB1.setCell (p := ⟨w.heap.size, 0, none⟩) (Nat.le_refl _) (.string ⟨#[]⟩)).setCell (p := ⟨w.heap.size, 1, none⟩) (Nat.le_refl _) (.bool false)).setCell (p := ⟨w.heap.size, 2, none⟩) (Nat.le_refl _) (.string ⟨#[]⟩)).setCell (p := ⟨w.heap.size, 3, none⟩) (Nat.le_refl _) (.int .i64 0))
      obtain ⟨V, hV⟩ : ∃ V, ((((v1.setCell ⟨w.heap.size, 0, none⟩ (.string ⟨#[]⟩)).setCell ⟨w.heap.size, 1, none⟩ (.bool false)).setCell ⟨w.heap.size, 2, none⟩ (.string ⟨#[]⟩)).setCell ⟨w.heap.size, 3, none⟩ (.int .i64 0)) = V := ⟨_, rfl⟩
      rw [hV] at hrF hBF ⊢
      clear hV
      have z0 := hrF.c 0 _ rfl
      have z1 := hrF.c 1 _ rfl
      have z2 := hrF.c 2 _ rfl
      have z3 := hrF.c 3 _ rfl
      refine bodyPost_ret (v := .tuple #[.agg #[.string ⟨#[]⟩, .bool false, .string ⟨#[]⟩, .int .i64 0], .bool false]) (by simp [results, Tryz.results22, go_sem, z0, z1, z2, z3]) rfl ?_
      exact ⟨hBF.out, rfl⟩
  · have hae : ((a.kind : Int) == 1) = false := by rw [beq_eq_false_iff_ne]; omega
    have hE : headSh [a, b, c] = none := by simp [headSh, ha]
    rw [hE]
    clear hE ha
    go_enter Tryz.func22, Tryz.ntmps22
    go_wp2_with fail
    have hr0 := Blk.made (T := RST) (cs := #[.string ⟨#[]⟩, .bool false, .string ⟨#[]⟩, .int .i64 0]) w
    have hB0 : Below w.heap.size w (w.alloc (.cells #[.string ⟨#[]⟩, .bool false, .string ⟨#[]⟩, .int .i64 0] RST)) := (Below.refl _ _).alloc (Nat.le_refl _) _
    have hne : ¬ g = w.heap.size := by omega
    have z0 := hr0.c 0 _ rfl
    have z1 := hr0.c 1 _ rfl
    have z2 := hr0.c 2 _ rfl
    have z3 := hr0.c 3 _ rfl
    refine bodyPost_ret (v := .tuple #[.agg #[.string ⟨#[]⟩, .bool false, .string ⟨#[]⟩, .int .i64 0], .bool false]) (by simp [results, Tryz.results22, go_sem]) rfl ?_
    exact ⟨hB0, rfl⟩
set_option maxRecDepth 100000 in
set_option maxHeartbeats 1600000 in
theorem rhead4 {g cap : Nat} {a b c d : Tok} (hl : Rows_ g [a, b, c, d] w) (hg : g < w.heap.size) (hc : 4 ≤ cap) :
    Calls Tryz.prog 22 #[.slice (some ⟨g, 0, none⟩) 4 cap] w (RHeaded (headSh [a, b, c, d]) w) := by
  obtain ⟨k0, w0, n0, p0⟩ := hl 0 _ rfl
  obtain ⟨k1, w1, n1, p1⟩ := hl 1 _ rfl
  obtain ⟨k2, w2, n2, p2⟩ := hl 2 _ rfl
  obtain ⟨k3, w3, n3, p3⟩ := hl 3 _ rfl
  simp only [Nat.reduceMul, Nat.reduceAdd] at k0 w0 n0 p0 k1 w1 n1 p1 k2 w2 n2 p2 k3 w3 n3 p3
  by_cases ha : a.kind = 1
  · have hae : ((a.kind : Int) == 1) = true := by rw [beq_iff_eq]; omega
    cases hi1 : is1 b 1 wClass with
    | true =>
      cases hi2 : is1 c 1 wMethods with
      | true =>
        have hE : headSh [a, b, c, d] = some (a.word, true) := by simp [headSh, ha, hi1, hi2]
        rw [hE]
        have hC1 := fun v => ris1 b 1 wClass v
        rw [hi1] at hC1
        have HC1 := Lib.hid hC1
        have hC2 := fun v => ris1 c 1 wMethods v
        rw [hi2] at hC2
        have HC2 := Lib.hid hC2
        clear hC1 hC2 hi1 hi2 hE ha
        go_enter Tryz.func22, Tryz.ntmps22
        go_wp2_with fail
        have hr0 := Blk.made (T := RST) (cs := #[.string ⟨#[]⟩, .bool false, .string ⟨#[]⟩, .int .i64 0]) w
        have hB0 : Below w.heap.size w (w.alloc (.cells #[.string ⟨#[]⟩, .bool false, .string ⟨#[]⟩, .int .i64 0] RST)) := (Below.refl _ _).alloc (Nat.le_refl _) _
        have hne : ¬ g = w.heap.size := by omega
        refine (HC1.out _).mono ?_; rintro e v1 ⟨rfl, hb1⟩
        have hr1 := hr0.below hb1 hr0.lt
        have hB1 := hB0.trans (hb1.mono hB0.size)
        obtain ⟨q1k0, q1w0, q1n0, q1p0⟩ := (rows_below hl hB1 hg) 0 _ rfl
        obtain ⟨q1k1, q1w1, q1n1, q1p1⟩ := (rows_below hl hB1 hg) 1 _ rfl
        obtain ⟨q1k2, q1w2, q1n2, q1p2⟩ := (rows_below hl hB1 hg) 2 _ rfl
        obtain ⟨q1k3, q1w3, q1n3, q1p3⟩ := (rows_below hl hB1 hg) 3 _ rfl
        simp only [Nat.reduceMul, Nat.reduceAdd] at q1k0 q1w0 q1n0 q1p0 q1k1 q1w1 q1n1 q1p1 q1k2 q1w2 q1n2 q1p2 q1k3 q1w3 q1n3 q1p3
        have e10 := hr1.c 0 _ rfl
        have e11 := hr1.c 1 _ rfl
        have e12 := hr1.c 2 _ rfl
        have e13 := hr1.c 3 _ rfl
        have ef1 := hr1.fz
        have hg1 := Nat.lt_of_lt_of_le hg hB1.size
        have hrl1 := hr1.lt
        go_wp2_with fail
        refine (HC2.out _).mono ?_; rintro e v2 ⟨rfl, hb2⟩
        have hr2 := hr1.below hb2 hr1.lt
        have hB2 := hB1.trans (hb2.mono hB1.size)
        obtain ⟨q2k0, q2w0, q2n0, q2p0⟩ := (rows_below hl hB2 hg) 0 _ rfl
        obtain ⟨q2k1, q2w1, q2n1, q2p1⟩ := (rows_below hl hB2 hg) 1 _ rfl
        obtain ⟨q2k2, q2w2, q2n2, q2p2⟩ := (rows_below hl hB2 hg) 2 _ rfl
        obtain ⟨q2k3, q2w3, q2n3, q2p3⟩ := (rows_below hl hB2 hg) 3 _ rfl
        simp only [Nat.reduceMul, Nat.reduceAdd] at q2k0 q2w0 q2n0 q2p0 q2k1 q2w1 q2n1 q2p1 q2k2 q2w2 q2n2 q2p2 q2k3 q2w3 q2n3 q2p3
        have e20 := hr2.c 0 _ rfl
        have e21 := hr2.c 1 _ rfl
        have e22 := hr2.c 2 _ rfl
        have e23 := hr2.c 3 _ rfl
        have ef2 := hr2.fz
        have hg2 := Nat.lt_of_lt_of_le hg hB2.size
        have hrl2 := hr2.lt
        go_wp2_with fail
        have hrF := ((((hr2.set_ 0 (.string ⟨a.word.toArray⟩) _ rfl).set_ 1 (.bool true) _ rfl).set_ 2 (.string ⟨#[]⟩) _ rfl).set_ 3 (.int .i64 0) _ rfl)
        have hBF := Lib.hid ((((hB2.setCell (p := ⟨w.heap.size, 0, none⟩) (Nat.le_refl _) (.string ⟨a.word.toArray⟩)).setCell (p := ⟨w.heap.size, 1, none⟩) (Nat.le_refl _) (.bool true)).setCell (p := ⟨w.heap.size, 2, none⟩) (Nat.le_refl _) (.string ⟨#[]⟩)).setCell (p := ⟨w.heap.size, 3, none⟩) (Nat.le_refl _) (.int .i64 0))
        obtain ⟨V, hV⟩ : ∃ V, ((((v2.setCell ⟨w.heap.size, 0, none⟩ (.string ⟨a.word.toArray⟩)).setCell ⟨w.heap.size, 1, none⟩ (.bool true)).setCell ⟨w.heap.size, 2, none⟩ (.string ⟨#[]⟩)).setCell ⟨w.heap.size, 3, none⟩ (.int .i64 0)) = V := ⟨_, rfl⟩
        rw [hV] at hrF hBF ⊢
        clear hV
        have z0 := hrF.c 0 _ rfl
        have z1 := hrF.c 1 _ rfl
        have z2 := hrF.c 2 _ rfl
        have z3 := hrF.c 3 _ rfl
        refine bodyPost_ret (v := .tuple #[.agg #[.string ⟨a.word.toArray⟩, .bool true, .string ⟨#[]⟩, .int .i64 0], .bool true]) (by simp [results, Tryz.results22, go_sem, z0, z1, z2, z3]) rfl ?_
        exact ⟨hBF.out, rfl⟩
      | false =>
        have hE : headSh [a, b, c, d] = none := by simp [headSh, ha, hi1, hi2]
        rw [hE]
        have hC1 := fun v => ris1 b 1 wClass v
        rw [hi1] at hC1
        have HC1 := Lib.hid hC1
        have hC2 := fun v => ris1 c 1 wMethods v
        rw [hi2] at hC2
        have HC2 := Lib.hid hC2
        clear hC1 hC2 hi1 hi2 hE ha
        go_enter Tryz.func22, Tryz.ntmps22
        go_wp2_with fail
        have hr0 := Blk.made (T := RST) (cs := #[.string ⟨#[]⟩, .bool false, .string ⟨#[]⟩, .int .i64 0]) w
        have hB0 : Below w.heap.size w (w.alloc (.cells #[.string ⟨#[]⟩, .bool false, .string ⟨#[]⟩, .int .i64 0] RST)) := (Below.refl _ _).alloc (Nat.le_refl _) _
        have hne : ¬ g = w.heap.size := by omega
        refine (HC1.out _).mono ?_; rintro e v1 ⟨rfl, hb1⟩
        have hr1 := hr0.below hb1 hr0.lt
        have hB1 := hB0.trans (hb1.mono hB0.size)
        obtain ⟨q1k0, q1w0, q1n0, q1p0⟩ := (rows_below hl hB1 hg) 0 _ rfl
        obtain ⟨q1k1, q1w1, q1n1, q1p1⟩ := (rows_below hl hB1 hg) 1 _ rfl
        obtain ⟨q1k2, q1w2, q1n2, q1p2⟩ := (rows_below hl hB1 hg) 2 _ rfl
        obtain ⟨q1k3, q1w3, q1n3, q1p3⟩ := (rows_below hl hB1 hg) 3 _ rfl
        simp only [Nat.reduceMul, Nat.reduceAdd] at q1k0 q1w0 q1n0 q1p0 q1k1 q1w1 q1n1 q1p1 q1k2 q1w2 q1n2 q1p2 q1k3 q1w3 q1n3 q1p3
        have e10 := hr1.c 0 _ rfl
        have e11 := hr1.c 1 _ rfl
        have e12 := hr1.c 2 _ rfl
        have e13 := hr1.c 3 _ rfl
        have ef1 := hr1.fz
        have hg1 := Nat.lt_of_lt_of_le hg hB1.size
        have hrl1 := hr1.lt
        go_wp2_with fail
        refine (HC2.out _).mono ?_; rintro e v2 ⟨rfl, hb2⟩
        have hr2 := hr1.below hb2 hr1.lt
        have hB2 := hB1.trans (hb2.mono hB1.size)
        obtain ⟨q2k0, q2w0, q2n0, q2p0⟩ := (rows_below hl hB2 hg) 0 _ rfl
        obtain ⟨q2k1, q2w1, q2n1, q2p1⟩ := (rows_below hl hB2 hg) 1 _ rfl
        obtain ⟨q2k2, q2w2, q2n2, q2p2⟩ := (rows_below hl hB2 hg) 2 _ rfl
        obtain ⟨q2k3, q2w3, q2n3, q2p3⟩ := (rows_below hl hB2 hg) 3 _ rfl
        simp only [Nat.reduceMul, Nat.reduceAdd] at q2k0 q2w0 q2n0 q2p0 q2k1 q2w1 q2n1 q2p1 q2k2 q2w2 q2n2 q2p2 q2k3 q2w3 q2n3 q2p3
        have e20 := hr2.c 0 _ rfl
        have e21 := hr2.c 1 _ rfl
        have e22 := hr2.c 2 _ rfl
        have e23 := hr2.c 3 _ rfl
        have ef2 := hr2.fz
        have hg2 := Nat.lt_of_lt_of_le hg hB2.size
        have hrl2 := hr2.lt
        go_wp2_with fail
        have hrF := ((((hr2.set_ 0 (.string ⟨#[]⟩) _ rfl).set_ 1 (.bool false) _ rfl).set_ 2 (.string ⟨#[]⟩) _ rfl).set_ 3 (.int .i64 0) _ rfl)
        have hBF := Lib.hid ((((hB2.setCell (p := ⟨w.heap.size, 0, none⟩) (Nat.le_refl _) (.string ⟨#[]⟩)).setCell (p := ⟨w.heap.size, 1, none⟩) (Nat.le_refl _) (.bool false)).setCell (p := ⟨w.heap.size, 2, none⟩) (Nat.le_refl _) (.string ⟨#[]⟩)).setCell (p := ⟨w.heap.size, 3, none⟩) (Nat.le_refl _) (.int .i64 0))
        obtain ⟨V, hV⟩ : ∃ V, ((((v2.setCell ⟨w.heap.size, 0, none⟩ (.string ⟨#[]⟩)).setCell ⟨w.heap.size, 1, none⟩ (.bool false)).setCell ⟨w.heap.size, 2, none⟩ (.string ⟨#[]⟩)).setCell ⟨w.heap.size, 3, none⟩ (.int .i64 0)) = V := ⟨_, rfl⟩
        rw [hV] at hrF hBF ⊢
        clear hV
        have z0 := hrF.c 0 _ rfl
        have z1 := hrF.c 1 _ rfl
        have z2 := hrF.c 2 _ rfl
        have z3 := hrF.c 3 _ rfl
        refine bodyPost_ret (v := .tuple #[.agg #[.string ⟨#[]⟩, .bool false, .string ⟨#[]⟩, .int .i64 0], .bool false]) (by simp [results, Tryz.results22, go_sem, z0, z1, z2, z3]) rfl ?_
        exact ⟨hBF.out, rfl⟩
    | false =>
      have hE : headSh [a, b, c, d] = none := by simp [headSh, ha, hi1]
      rw [hE]
      have hC1 := fun v => ris1 b 1 wClass v
      rw [hi1] at hC1
      have HC1 := Lib.hid hC1
      clear hC1 hi1 hE ha
      go_enter Tryz.func22, Tryz.ntmps22
      go_wp2_with fail
      have hr0 := Blk.made (T := RST) (cs := #[.string ⟨#[]⟩, .bool false, .string ⟨#[]⟩, .int .i64 0]) w
      have hB0 : Below w.heap.size w (w.alloc (.cells #[.string ⟨#[]⟩, .bool false, .string ⟨#[]⟩, .int .i64 0] RST)) := (Below.refl _ _).alloc (Nat.le_refl _) _
      have hne : ¬ g = w.heap.size := by omega
      refine (HC1.out _).mono ?_; rintro e v1 ⟨rfl, hb1⟩
      have hr1 := hr0.below hb1 hr0.lt
      have hB1 := hB0.trans (hb1.mono hB0.size)
      obtain ⟨q1k0, q1w0, q1n0, q1p0⟩ := (rows_below hl hB1 hg) 0 _ rfl
      obtain ⟨q1k1, q1w1, q1n1, q1p1⟩ := (rows_below hl hB1 hg) 1 _ rfl
      obtain ⟨q1k2, q1w2, q1n2, q1p2⟩ := (rows_below hl hB1 hg) 2 _ rfl
      obtain ⟨q1k3, q1w3, q1n3, q1p3⟩ := (rows_below hl hB1 hg) 3 _ rfl
      simp only [Nat.reduceMul, Nat.reduceAdd] at q1k0 q1w0 q1n0 q1p0 q1k1 q1w1 q1n1 q1p1 q1k2 q1w2 q1n2 q1p2 q1k3 q1w3 q1n3 q1p3
      have e10 := hr1.c 0 _ rfl
      have e11 := hr1.c 1 _ rfl
      have e12 := hr1.c 2 _ rfl
      have e13 := hr1.c 3 _ rfl
      have ef1 := hr1.fz
      have hg1 := Nat.lt_of_lt_of_le hg hB1.size
      have hrl1 := hr1.lt
      go_wp2_with fail
      have hrF := ((((hr1.set_ 0 (.string ⟨#[]⟩) _ rfl).set_ 1 (.bool false) _ rfl).set_ 2 (.string ⟨#[]⟩) _ rfl).set_ 3 (.int .i64 0) _ rfl)
      have hBF := Lib.hid ((((hB1.setCell (p := ⟨w.heap.size, 0, none⟩) (Nat.le_refl _) (.string ⟨#[]⟩)).setCell (p := ⟨w.heap.size, 1, none⟩) (Nat.le_refl _) (.bool false)).setCell (p := ⟨w.heap.size, 2, none⟩) (Nat.le_refl _) (.string ⟨#[]⟩)).setCell (p := ⟨w.heap.size, 3, none⟩) (Nat.le_refl _) (.int .i64 0))
      obtain ⟨V, hV⟩ : ∃ V, ((((v1.setCell ⟨w.heap.size, 0, none⟩ (.string ⟨#[]⟩)).setCell ⟨w.heap.size, 1, none⟩ (.bool false)).setCell ⟨w.heap.size, 2, none⟩ (.string ⟨#[]⟩)).setCell ⟨w.heap.size, 3, none⟩ (.int .i64 0)) = V := ⟨_, rfl⟩
      rw [hV] at hrF hBF ⊢
      clear hV
      have z0 := hrF.c 0 _ rfl
      have z1 := hrF.c 1 _ rfl
      have z2 := hrF.c 2 _ rfl
      have z3 := hrF.c 3 _ rfl
      refine bodyPost_ret (v := .tuple #[.agg #[.string ⟨#[]⟩, .bool false, .string ⟨#[]⟩, .int .i64 0], .bool false]) (by simp [results, Tryz.results22, go_sem, z0, z1, z2, z3]) rfl ?_
      exact ⟨hBF.out, rfl⟩
  · have hae : ((a.kind : Int) == 1) = false := by rw [beq_eq_false_iff_ne]; omega
    have hE : headSh [a, b, c, d] = none := by simp [headSh, ha]
    rw [hE]
    clear hE ha
    go_enter Tryz.func22, Tryz.ntmps22
    go_wp2_with fail
    have hr0 := Blk.made (T := RST) (cs := #[.string ⟨#[]⟩, .bool false, .string ⟨#[]⟩, .int .i64 0]) w
    have hB0 : Below w.heap.size w (w.alloc (.cells #[.string ⟨#[]⟩, .bool false, .string ⟨#[]⟩, .int .i64 0] RST)) := (Below.refl _ _).alloc (Nat.le_refl _) _
    have hne : ¬ g = w.heap.size := by omega
    have z0 := hr0.c 0 _ rfl
    have z1 := hr0.c 1 _ rfl
    have z2 := hr0.c 2 _ rfl
    have z3 := hr0.c 3 _ rfl
    refine bodyPost_ret (v := .tuple #[.agg #[.string ⟨#[]⟩, .bool false, .string ⟨#[]⟩, .int .i64 0], .bool false]) (by simp [results, Tryz.results22, go_sem]) rfl ?_
    exact ⟨hB0, rfl⟩
set_option maxRecDepth 100000 in
set_option maxHeartbeats 1600000 in
theorem rheadx {g m cap : Nat} (h3 : m ≠ 3) (h4 : m ≠ 4) (hc : m ≤ cap) (hg : g < w.heap.size) :
    Calls Tryz.prog 22 #[.slice (some ⟨g, 0, none⟩) m cap] w (RHeaded none w) := by
  have h3' : ((m : Int) == 3) = false := by rw [beq_eq_false_iff_ne]; omega
  have h4' : ((m : Int) == 4) = false := by rw [beq_eq_false_iff_ne]; omega
  clear h3 h4
  go_enter Tryz.func22, Tryz.ntmps22
  go_wp2_with fail
  have hr0 := Blk.made (T := RST) (cs := #[.string ⟨#[]⟩, .bool false, .string ⟨#[]⟩, .int .i64 0]) w
  have hB0 : Below w.heap.size w (w.alloc (.cells #[.string ⟨#[]⟩, .bool false, .string ⟨#[]⟩, .int .i64 0] RST)) := (Below.refl _ _).alloc (Nat.le_refl _) _
  have hne : ¬ g = w.heap.size := by omega
  have z0 := hr0.c 0 _ rfl
  have z1 := hr0.c 1 _ rfl
  have z2 := hr0.c 2 _ rfl
  have z3 := hr0.c 3 _ rfl
  refine bodyPost_ret (v := .tuple #[.agg #[.string ⟨#[]⟩, .bool false, .string ⟨#[]⟩, .int .i64 0], .bool false]) (by simp [results, Tryz.results22, go_sem]) rfl ?_
  exact ⟨hB0, rfl⟩
theorem rheader_any {g m cap : Nat} {l : List Tok} (hl : Rows_ g l w) (hg : g < w.heap.size) (hm : l.length = m) (hc : m ≤ cap) :
    Calls Tryz.prog 22 #[.slice (some ⟨g, 0, none⟩) m cap] w (RHeaded (headSh l) w) := by
  match l, hl, hm with
  | [a, b, c], hl, hm => subst hm; exact rhead3 hl hg hc
  | [a, b, c, d], hl, hm => subst hm; exact rhead4 hl hg hc
  | [], hl, hm => exact rheadx (by rw [← hm]; decide) (by rw [← hm]; decide) hc hg
  | [a], hl, hm => exact rheadx (by rw [← hm]; simp) (by rw [← hm]; simp) hc hg
  | [a, b], hl, hm => exact rheadx (by rw [← hm]; simp) (by rw [← hm]; simp) hc hg
  | a :: b :: c :: d :: e :: r, hl, hm => exact rheadx (by rw [← hm]; simp) (by rw [← hm]; simp) hc hg
end Ck
end Go.Proofs.YthdigbkcffihkaaGreatDoor
namespace Go.Proofs.YthdigbkcffihkaaGreatDoor
open Go.RowKit
namespace Ck
open Lx
variable {w : World}
set_option maxRecDepth 100000 in
set_option maxHeartbeats 1600000 in
theorem rclass_a {g cap : Nat} {a b c d e f : Tok} (hl : Rows_ g [a, b, c, d, e, f] w) (hg : g < w.heap.size) (hc : 6 ≤ cap) (at_ : Nat) (ha : a.kind ≠ 1) :
    Calls Tryz.prog 21 #[.slice (some ⟨g, 0, none⟩) 6 cap, .int .i64 (at_ : Int)] w (fun e w' => Below w.heap.size w w' ∧ e = .returned (.tuple #[.agg #[.string ⟨#[]⟩, .string ⟨#[]⟩, .slice none 0 0, .int .i64 0], .bool false])) := by
  obtain ⟨k0, w0, n0, p0⟩ := hl 0 _ rfl
  obtain ⟨k1, w1, n1, p1⟩ := hl 1 _ rfl
  obtain ⟨k2, w2, n2, p2⟩ := hl 2 _ rfl
  obtain ⟨k3, w3, n3, p3⟩ := hl 3 _ rfl
  obtain ⟨k4, w4, n4, p4⟩ := hl 4 _ rfl
  obtain ⟨k5, w5, n5, p5⟩ := hl 5 _ rfl
  simp only [Nat.reduceMul, Nat.reduceAdd] at k0 w0 n0 p0 k1 w1 n1 p1 k2 w2 n2 p2 k3 w3 n3 p3 k4 w4 n4 p4 k5 w5 n5 p5
  have hae : ((a.kind : Int) != 1) = true := by simp; omega
  clear ha
  go_enter Tryz.func21, Tryz.ntmps21
  go_wp2_with fail
  have hr0 := Blk.made (T := RCT) (cs := #[.string ⟨#[]⟩, .string ⟨#[]⟩, .slice none 0 0, .int .i64 0]) w
  have hB0 : Below w.heap.size w (w.alloc (.cells #[.string ⟨#[]⟩, .string ⟨#[]⟩, .slice none 0 0, .int .i64 0] RCT)) := (Below.refl _ _).alloc (Nat.le_refl _) _
  have hne : ¬ g = w.heap.size := by omega
  have z0 := hr0.c 0 _ rfl
  have z1 := hr0.c 1 _ rfl
  have z2 := hr0.c 2 _ rfl
  have z3 := hr0.c 3 _ rfl
  refine bodyPost_ret (v := .tuple #[.agg #[.string ⟨#[]⟩, .string ⟨#[]⟩, .slice none 0 0, .int .i64 0], .bool false]) (by simp [results, Tryz.results21, go_sem]) rfl ?_
  exact ⟨hB0, rfl⟩
set_option maxRecDepth 100000 in
set_option maxHeartbeats 1600000 in
theorem rclass_b {g cap : Nat} {a b c d e f : Tok} (hl : Rows_ g [a, b, c, d, e, f] w) (hg : g < w.heap.size) (hc : 6 ≤ cap) (at_ : Nat) (ha : a.kind = 1) (hi1 : is1 b 2 wSub = false) :
    Calls Tryz.prog 21 #[.slice (some ⟨g, 0, none⟩) 6 cap, .int .i64 (at_ : Int)] w (fun e w' => Below w.heap.size w w' ∧ e = .returned (.tuple #[.agg #[.string ⟨#[]⟩, .string ⟨#[]⟩, .slice none 0 0, .int .i64 0], .bool false])) := by
  obtain ⟨k0, w0, n0, p0⟩ := hl 0 _ rfl
  obtain ⟨k1, w1, n1, p1⟩ := hl 1 _ rfl
  obtain ⟨k2, w2, n2, p2⟩ := hl 2 _ rfl
  obtain ⟨k3, w3, n3, p3⟩ := hl 3 _ rfl
  obtain ⟨k4, w4, n4, p4⟩ := hl 4 _ rfl
  obtain ⟨k5, w5, n5, p5⟩ := hl 5 _ rfl
  simp only [Nat.reduceMul, Nat.reduceAdd] at k0 w0 n0 p0 k1 w1 n1 p1 k2 w2 n2 p2 k3 w3 n3 p3 k4 w4 n4 p4 k5 w5 n5 p5
  have hae : ((a.kind : Int) != 1) = false := by simp; omega
  have hC1 := fun v => ris1 b 2 wSub v
  rw [hi1] at hC1
  have HC1 := Lib.hid hC1
  clear hC1
  clear ha hi1
  go_enter Tryz.func21, Tryz.ntmps21
  go_wp2_with fail
  have hr0 := Blk.made (T := RCT) (cs := #[.string ⟨#[]⟩, .string ⟨#[]⟩, .slice none 0 0, .int .i64 0]) w
  have hB0 : Below w.heap.size w (w.alloc (.cells #[.string ⟨#[]⟩, .string ⟨#[]⟩, .slice none 0 0, .int .i64 0] RCT)) := (Below.refl _ _).alloc (Nat.le_refl _) _
  have hne : ¬ g = w.heap.size := by omega
  refine (HC1.out _).mono ?_; rintro e v1 ⟨rfl, hb1⟩
  have hr1 := hr0.below hb1 hr0.lt
  have hB1 := hB0.trans (hb1.mono hB0.size)
  obtain ⟨q1k0, q1w0, q1n0, q1p0⟩ := (rows_below hl hB1 hg) 0 _ rfl
  obtain ⟨q1k1, q1w1, q1n1, q1p1⟩ := (rows_below hl hB1 hg) 1 _ rfl
  obtain ⟨q1k2, q1w2, q1n2, q1p2⟩ := (rows_below hl hB1 hg) 2 _ rfl
  obtain ⟨q1k3, q1w3, q1n3, q1p3⟩ := (rows_below hl hB1 hg) 3 _ rfl
  obtain ⟨q1k4, q1w4, q1n4, q1p4⟩ := (rows_below hl hB1 hg) 4 _ rfl
  obtain ⟨q1k5, q1w5, q1n5, q1p5⟩ := (rows_below hl hB1 hg) 5 _ rfl
  simp only [Nat.reduceMul, Nat.reduceAdd] at q1k0 q1w0 q1n0 q1p0 q1k1 q1w1 q1n1 q1p1 q1k2 q1w2 q1n2 q1p2 q1k3 q1w3 q1n3 q1p3 q1k4 q1w4 q1n4 q1p4 q1k5 q1w5 q1n5 q1p5
  have e10 := hr1.c 0 _ rfl
  have e11 := hr1.c 1 _ rfl
  have e12 := hr1.c 2 _ rfl
  have e13 := hr1.c 3 _ rfl
  have ef1 := hr1.fz
  have hg1 := Nat.lt_of_lt_of_le hg hB1.size
  have hrl1 := hr1.lt
  go_wp2_with fail
  have hrF := ((((hr1.set_ 0 (.string ⟨#[]⟩) _ rfl).set_ 1 (.string ⟨#[]⟩) _ rfl).set_ 2 (.slice none 0 0) _ rfl).set_ 3 (.int .i64 0) _ rfl)
  have hBF := Lib.hid ((((hB1.setCell (p := ⟨w.heap.size, 0, none⟩) (Nat.le_refl _) (.string ⟨#[]⟩)).setCell (p := ⟨w.heap.size, 1, none⟩) (Nat.le_refl _) (.string ⟨#[]⟩)).setCell (p := ⟨w.heap.size, 2, none⟩) (Nat.le_refl _) (.slice none 0 0)).setCell (p := ⟨w.heap.size, 3, none⟩) (Nat.le_refl _) (.int .i64 0))
  obtain ⟨V, hV⟩ : ∃ V, ((((v1.setCell ⟨w.heap.size, 0, none⟩ (.string ⟨#[]⟩)).setCell ⟨w.heap.size, 1, none⟩ (.string ⟨#[]⟩)).setCell ⟨w.heap.size, 2, none⟩ (.slice none 0 0)).setCell ⟨w.heap.size, 3, none⟩ (.int .i64 0)) = V := ⟨_, rfl⟩
  rw [hV] at hrF hBF ⊢
  clear hV
  have z0 := hrF.c 0 _ rfl
  have z1 := hrF.c 1 _ rfl
  have z2 := hrF.c 2 _ rfl
  have z3 := hrF.c 3 _ rfl
  refine bodyPost_ret (v := .tuple #[.agg #[.string ⟨#[]⟩, .string ⟨#[]⟩, .slice none 0 0, .int .i64 0], .bool false]) (by simp [results, Tryz.results21, go_sem, z0, z1, z2, z3]) rfl ?_
  exact ⟨hBF.out, rfl⟩
set_option maxRecDepth 100000 in
set_option maxHeartbeats 1600000 in
theorem rclass_c {g cap : Nat} {a b c d e f : Tok} (hl : Rows_ g [a, b, c, d, e, f] w) (hg : g < w.heap.size) (hc : 6 ≤ cap) (at_ : Nat) (ha : a.kind = 1) (hi1 : is1 b 2 wSub = true) (hc5 : c.kind ≠ 5) :
    Calls Tryz.prog 21 #[.slice (some ⟨g, 0, none⟩) 6 cap, .int .i64 (at_ : Int)] w (fun e w' => Below w.heap.size w w' ∧ e = .returned (.tuple #[.agg #[.string ⟨#[]⟩, .string ⟨#[]⟩, .slice none 0 0, .int .i64 0], .bool false])) := by
  obtain ⟨k0, w0, n0, p0⟩ := hl 0 _ rfl
  obtain ⟨k1, w1, n1, p1⟩ := hl 1 _ rfl
  obtain ⟨k2, w2, n2, p2⟩ := hl 2 _ rfl
  obtain ⟨k3, w3, n3, p3⟩ := hl 3 _ rfl
  obtain ⟨k4, w4, n4, p4⟩ := hl 4 _ rfl
  obtain ⟨k5, w5, n5, p5⟩ := hl 5 _ rfl
  simp only [Nat.reduceMul, Nat.reduceAdd] at k0 w0 n0 p0 k1 w1 n1 p1 k2 w2 n2 p2 k3 w3 n3 p3 k4 w4 n4 p4 k5 w5 n5 p5
  have hae : ((a.kind : Int) != 1) = false := by simp; omega
  have hce : ((c.kind : Int) != 5) = true := by simp; omega
  have hC1 := fun v => ris1 b 2 wSub v
  rw [hi1] at hC1
  have HC1 := Lib.hid hC1
  clear hC1
  clear ha hi1 hc5
  go_enter Tryz.func21, Tryz.ntmps21
  go_wp2_with fail
  have hr0 := Blk.made (T := RCT) (cs := #[.string ⟨#[]⟩, .string ⟨#[]⟩, .slice none 0 0, .int .i64 0]) w
  have hB0 : Below w.heap.size w (w.alloc (.cells #[.string ⟨#[]⟩, .string ⟨#[]⟩, .slice none 0 0, .int .i64 0] RCT)) := (Below.refl _ _).alloc (Nat.le_refl _) _
  have hne : ¬ g = w.heap.size := by omega
  refine (HC1.out _).mono ?_; rintro e v1 ⟨rfl, hb1⟩
  have hr1 := hr0.below hb1 hr0.lt
  have hB1 := hB0.trans (hb1.mono hB0.size)
  obtain ⟨q1k0, q1w0, q1n0, q1p0⟩ := (rows_below hl hB1 hg) 0 _ rfl
  obtain ⟨q1k1, q1w1, q1n1, q1p1⟩ := (rows_below hl hB1 hg) 1 _ rfl
  obtain ⟨q1k2, q1w2, q1n2, q1p2⟩ := (rows_below hl hB1 hg) 2 _ rfl
  obtain ⟨q1k3, q1w3, q1n3, q1p3⟩ := (rows_below hl hB1 hg) 3 _ rfl
  obtain ⟨q1k4, q1w4, q1n4, q1p4⟩ := (rows_below hl hB1 hg) 4 _ rfl
  obtain ⟨q1k5, q1w5, q1n5, q1p5⟩ := (rows_below hl hB1 hg) 5 _ rfl
  simp only [Nat.reduceMul, Nat.reduceAdd] at q1k0 q1w0 q1n0 q1p0 q1k1 q1w1 q1n1 q1p1 q1k2 q1w2 q1n2 q1p2 q1k3 q1w3 q1n3 q1p3 q1k4 q1w4 q1n4 q1p4 q1k5 q1w5 q1n5 q1p5
  have e10 := hr1.c 0 _ rfl
  have e11 := hr1.c 1 _ rfl
  have e12 := hr1.c 2 _ rfl
  have e13 := hr1.c 3 _ rfl
  have ef1 := hr1.fz
  have hg1 := Nat.lt_of_lt_of_le hg hB1.size
  have hrl1 := hr1.lt
  go_wp2_with fail
  have hrF := ((((hr1.set_ 0 (.string ⟨#[]⟩) _ rfl).set_ 1 (.string ⟨#[]⟩) _ rfl).set_ 2 (.slice none 0 0) _ rfl).set_ 3 (.int .i64 0) _ rfl)
  have hBF := Lib.hid ((((hB1.setCell (p := ⟨w.heap.size, 0, none⟩) (Nat.le_refl _) (.string ⟨#[]⟩)).setCell (p := ⟨w.heap.size, 1, none⟩) (Nat.le_refl _) (.string ⟨#[]⟩)).setCell (p := ⟨w.heap.size, 2, none⟩) (Nat.le_refl _) (.slice none 0 0)).setCell (p := ⟨w.heap.size, 3, none⟩) (Nat.le_refl _) (.int .i64 0))
  obtain ⟨V, hV⟩ : ∃ V, ((((v1.setCell ⟨w.heap.size, 0, none⟩ (.string ⟨#[]⟩)).setCell ⟨w.heap.size, 1, none⟩ (.string ⟨#[]⟩)).setCell ⟨w.heap.size, 2, none⟩ (.slice none 0 0)).setCell ⟨w.heap.size, 3, none⟩ (.int .i64 0)) = V := ⟨_, rfl⟩
  rw [hV] at hrF hBF ⊢
  clear hV
  have z0 := hrF.c 0 _ rfl
  have z1 := hrF.c 1 _ rfl
  have z2 := hrF.c 2 _ rfl
  have z3 := hrF.c 3 _ rfl
  refine bodyPost_ret (v := .tuple #[.agg #[.string ⟨#[]⟩, .string ⟨#[]⟩, .slice none 0 0, .int .i64 0], .bool false]) (by simp [results, Tryz.results21, go_sem, z0, z1, z2, z3]) rfl ?_
  exact ⟨hBF.out, rfl⟩
set_option maxRecDepth 100000 in
set_option maxHeartbeats 1600000 in
theorem rclass_d {g cap : Nat} {a b c d e f : Tok} (hl : Rows_ g [a, b, c, d, e, f] w) (hg : g < w.heap.size) (hc : 6 ≤ cap) (at_ : Nat) (ha : a.kind = 1) (hi1 : is1 b 2 wSub = true) (hc5 : c.kind = 5) (hi2 : is1 d 2 wFields = false) :
    Calls Tryz.prog 21 #[.slice (some ⟨g, 0, none⟩) 6 cap, .int .i64 (at_ : Int)] w (fun e w' => Below w.heap.size w w' ∧ e = .returned (.tuple #[.agg #[.string ⟨#[]⟩, .string ⟨#[]⟩, .slice none 0 0, .int .i64 0], .bool false])) := by
  obtain ⟨k0, w0, n0, p0⟩ := hl 0 _ rfl
  obtain ⟨k1, w1, n1, p1⟩ := hl 1 _ rfl
  obtain ⟨k2, w2, n2, p2⟩ := hl 2 _ rfl
  obtain ⟨k3, w3, n3, p3⟩ := hl 3 _ rfl
  obtain ⟨k4, w4, n4, p4⟩ := hl 4 _ rfl
  obtain ⟨k5, w5, n5, p5⟩ := hl 5 _ rfl
  simp only [Nat.reduceMul, Nat.reduceAdd] at k0 w0 n0 p0 k1 w1 n1 p1 k2 w2 n2 p2 k3 w3 n3 p3 k4 w4 n4 p4 k5 w5 n5 p5
  have hae : ((a.kind : Int) != 1) = false := by simp; omega
  have hce : ((c.kind : Int) != 5) = false := by simp; omega
  have hC1 := fun v => ris1 b 2 wSub v
  rw [hi1] at hC1
  have HC1 := Lib.hid hC1
  clear hC1
  have hC2 := fun v => ris1 d 2 wFields v
  rw [hi2] at hC2
  have HC2 := Lib.hid hC2
  clear hC2
  clear ha hi1 hc5 hi2
  go_enter Tryz.func21, Tryz.ntmps21
  go_wp2_with fail
  have hr0 := Blk.made (T := RCT) (cs := #[.string ⟨#[]⟩, .string ⟨#[]⟩, .slice none 0 0, .int .i64 0]) w
  have hB0 : Below w.heap.size w (w.alloc (.cells #[.string ⟨#[]⟩, .string ⟨#[]⟩, .slice none 0 0, .int .i64 0] RCT)) := (Below.refl _ _).alloc (Nat.le_refl _) _
  have hne : ¬ g = w.heap.size := by omega
  refine (HC1.out _).mono ?_; rintro e v1 ⟨rfl, hb1⟩
  have hr1 := hr0.below hb1 hr0.lt
  have hB1 := hB0.trans (hb1.mono hB0.size)
  obtain ⟨q1k0, q1w0, q1n0, q1p0⟩ := (rows_below hl hB1 hg) 0 _ rfl
  obtain ⟨q1k1, q1w1, q1n1, q1p1⟩ := (rows_below hl hB1 hg) 1 _ rfl
  obtain ⟨q1k2, q1w2, q1n2, q1p2⟩ := (rows_below hl hB1 hg) 2 _ rfl
  obtain ⟨q1k3, q1w3, q1n3, q1p3⟩ := (rows_below hl hB1 hg) 3 _ rfl
  obtain ⟨q1k4, q1w4, q1n4, q1p4⟩ := (rows_below hl hB1 hg) 4 _ rfl
  obtain ⟨q1k5, q1w5, q1n5, q1p5⟩ := (rows_below hl hB1 hg) 5 _ rfl
  simp only [Nat.reduceMul, Nat.reduceAdd] at q1k0 q1w0 q1n0 q1p0 q1k1 q1w1 q1n1 q1p1 q1k2 q1w2 q1n2 q1p2 q1k3 q1w3 q1n3 q1p3 q1k4 q1w4 q1n4 q1p4 q1k5 q1w5 q1n5 q1p5
  have e10 := hr1.c 0 _ rfl
  have e11 := hr1.c 1 _ rfl
  have e12 := hr1.c 2 _ rfl
  have e13 := hr1.c 3 _ rfl
  have ef1 := hr1.fz
  have hg1 := Nat.lt_of_lt_of_le hg hB1.size
  have hrl1 := hr1.lt
  go_wp2_with fail
  refine (HC2.out _).mono ?_; rintro e v2 ⟨rfl, hb2⟩
  have hr2 := hr1.below hb2 hr1.lt
  have hB2 := hB1.trans (hb2.mono hB1.size)
  obtain ⟨q2k0, q2w0, q2n0, q2p0⟩ := (rows_below hl hB2 hg) 0 _ rfl
  obtain ⟨q2k1, q2w1, q2n1, q2p1⟩ := (rows_below hl hB2 hg) 1 _ rfl
  obtain ⟨q2k2, q2w2, q2n2, q2p2⟩ := (rows_below hl hB2 hg) 2 _ rfl
  obtain ⟨q2k3, q2w3, q2n3, q2p3⟩ := (rows_below hl hB2 hg) 3 _ rfl
  obtain ⟨q2k4, q2w4, q2n4, q2p4⟩ := (rows_below hl hB2 hg) 4 _ rfl
  obtain ⟨q2k5, q2w5, q2n5, q2p5⟩ := (rows_below hl hB2 hg) 5 _ rfl
  simp only [Nat.reduceMul, Nat.reduceAdd] at q2k0 q2w0 q2n0 q2p0 q2k1 q2w1 q2n1 q2p1 q2k2 q2w2 q2n2 q2p2 q2k3 q2w3 q2n3 q2p3 q2k4 q2w4 q2n4 q2p4 q2k5 q2w5 q2n5 q2p5
  have e20 := hr2.c 0 _ rfl
  have e21 := hr2.c 1 _ rfl
  have e22 := hr2.c 2 _ rfl
  have e23 := hr2.c 3 _ rfl
  have ef2 := hr2.fz
  have hg2 := Nat.lt_of_lt_of_le hg hB2.size
  have hrl2 := hr2.lt
  go_wp2_with fail
  have hrF := ((((hr2.set_ 0 (.string ⟨#[]⟩) _ rfl).set_ 1 (.string ⟨#[]⟩) _ rfl).set_ 2 (.slice none 0 0) _ rfl).set_ 3 (.int .i64 0) _ rfl)
  have hBF := Lib.hid ((((hB2.setCell (p := ⟨w.heap.size, 0, none⟩) (Nat.le_refl _) (.string ⟨#[]⟩)).setCell (p := ⟨w.heap.size, 1, none⟩) (Nat.le_refl _) (.string ⟨#[]⟩)).setCell (p := ⟨w.heap.size, 2, none⟩) (Nat.le_refl _) (.slice none 0 0)).setCell (p := ⟨w.heap.size, 3, none⟩) (Nat.le_refl _) (.int .i64 0))
  obtain ⟨V, hV⟩ : ∃ V, ((((v2.setCell ⟨w.heap.size, 0, none⟩ (.string ⟨#[]⟩)).setCell ⟨w.heap.size, 1, none⟩ (.string ⟨#[]⟩)).setCell ⟨w.heap.size, 2, none⟩ (.slice none 0 0)).setCell ⟨w.heap.size, 3, none⟩ (.int .i64 0)) = V := ⟨_, rfl⟩
  rw [hV] at hrF hBF ⊢
  clear hV
  have z0 := hrF.c 0 _ rfl
  have z1 := hrF.c 1 _ rfl
  have z2 := hrF.c 2 _ rfl
  have z3 := hrF.c 3 _ rfl
  refine bodyPost_ret (v := .tuple #[.agg #[.string ⟨#[]⟩, .string ⟨#[]⟩, .slice none 0 0, .int .i64 0], .bool false]) (by simp [results, Tryz.results21, go_sem, z0, z1, z2, z3]) rfl ?_
  exact ⟨hBF.out, rfl⟩
set_option maxRecDepth 100000 in
set_option maxHeartbeats 1600000 in
theorem rclass_e {g cap : Nat} {a b c d e f : Tok} (hl : Rows_ g [a, b, c, d, e, f] w) (hg : g < w.heap.size) (hc : 6 ≤ cap) (at_ : Nat) (ha : a.kind = 1) (hi1 : is1 b 2 wSub = true) (hc5 : c.kind = 5) (hi2 : is1 d 2 wFields = true) (he4 : e.kind ≠ 4) :
    Calls Tryz.prog 21 #[.slice (some ⟨g, 0, none⟩) 6 cap, .int .i64 (at_ : Int)] w (fun e w' => Below w.heap.size w w' ∧ e = .returned (.tuple #[.agg #[.string ⟨#[]⟩, .string ⟨#[]⟩, .slice none 0 0, .int .i64 0], .bool false])) := by
  obtain ⟨k0, w0, n0, p0⟩ := hl 0 _ rfl
  obtain ⟨k1, w1, n1, p1⟩ := hl 1 _ rfl
  obtain ⟨k2, w2, n2, p2⟩ := hl 2 _ rfl
  obtain ⟨k3, w3, n3, p3⟩ := hl 3 _ rfl
  obtain ⟨k4, w4, n4, p4⟩ := hl 4 _ rfl
  obtain ⟨k5, w5, n5, p5⟩ := hl 5 _ rfl
  simp only [Nat.reduceMul, Nat.reduceAdd] at k0 w0 n0 p0 k1 w1 n1 p1 k2 w2 n2 p2 k3 w3 n3 p3 k4 w4 n4 p4 k5 w5 n5 p5
  have hae : ((a.kind : Int) != 1) = false := by simp; omega
  have hce : ((c.kind : Int) != 5) = false := by simp; omega
  have hee : ((e.kind : Int) != 4) = true := by simp; omega
  have hC1 := fun v => ris1 b 2 wSub v
  rw [hi1] at hC1
  have HC1 := Lib.hid hC1
  clear hC1
  have hC2 := fun v => ris1 d 2 wFields v
  rw [hi2] at hC2
  have HC2 := Lib.hid hC2
  clear hC2
  clear ha hi1 hc5 hi2 he4
  go_enter Tryz.func21, Tryz.ntmps21
  go_wp2_with fail
  have hr0 := Blk.made (T := RCT) (cs := #[.string ⟨#[]⟩, .string ⟨#[]⟩, .slice none 0 0, .int .i64 0]) w
  have hB0 : Below w.heap.size w (w.alloc (.cells #[.string ⟨#[]⟩, .string ⟨#[]⟩, .slice none 0 0, .int .i64 0] RCT)) := (Below.refl _ _).alloc (Nat.le_refl _) _
  have hne : ¬ g = w.heap.size := by omega
  refine (HC1.out _).mono ?_; rintro e v1 ⟨rfl, hb1⟩
  have hr1 := hr0.below hb1 hr0.lt
  have hB1 := hB0.trans (hb1.mono hB0.size)
  obtain ⟨q1k0, q1w0, q1n0, q1p0⟩ := (rows_below hl hB1 hg) 0 _ rfl
  obtain ⟨q1k1, q1w1, q1n1, q1p1⟩ := (rows_below hl hB1 hg) 1 _ rfl
  obtain ⟨q1k2, q1w2, q1n2, q1p2⟩ := (rows_below hl hB1 hg) 2 _ rfl
  obtain ⟨q1k3, q1w3, q1n3, q1p3⟩ := (rows_below hl hB1 hg) 3 _ rfl
  obtain ⟨q1k4, q1w4, q1n4, q1p4⟩ := (rows_below hl hB1 hg) 4 _ rfl
  obtain ⟨q1k5, q1w5, q1n5, q1p5⟩ := (rows_below hl hB1 hg) 5 _ rfl
  simp only [Nat.reduceMul, Nat.reduceAdd] at q1k0 q1w0 q1n0 q1p0 q1k1 q1w1 q1n1 q1p1 q1k2 q1w2 q1n2 q1p2 q1k3 q1w3 q1n3 q1p3 q1k4 q1w4 q1n4 q1p4 q1k5 q1w5 q1n5 q1p5
  have e10 := hr1.c 0 _ rfl
  have e11 := hr1.c 1 _ rfl
  have e12 := hr1.c 2 _ rfl
  have e13 := hr1.c 3 _ rfl
  have ef1 := hr1.fz
  have hg1 := Nat.lt_of_lt_of_le hg hB1.size
  have hrl1 := hr1.lt
  go_wp2_with fail
  refine (HC2.out _).mono ?_; rintro e v2 ⟨rfl, hb2⟩
  have hr2 := hr1.below hb2 hr1.lt
  have hB2 := hB1.trans (hb2.mono hB1.size)
  obtain ⟨q2k0, q2w0, q2n0, q2p0⟩ := (rows_below hl hB2 hg) 0 _ rfl
  obtain ⟨q2k1, q2w1, q2n1, q2p1⟩ := (rows_below hl hB2 hg) 1 _ rfl
  obtain ⟨q2k2, q2w2, q2n2, q2p2⟩ := (rows_below hl hB2 hg) 2 _ rfl
  obtain ⟨q2k3, q2w3, q2n3, q2p3⟩ := (rows_below hl hB2 hg) 3 _ rfl
  obtain ⟨q2k4, q2w4, q2n4, q2p4⟩ := (rows_below hl hB2 hg) 4 _ rfl
  obtain ⟨q2k5, q2w5, q2n5, q2p5⟩ := (rows_below hl hB2 hg) 5 _ rfl
  simp only [Nat.reduceMul, Nat.reduceAdd] at q2k0 q2w0 q2n0 q2p0 q2k1 q2w1 q2n1 q2p1 q2k2 q2w2 q2n2 q2p2 q2k3 q2w3 q2n3 q2p3 q2k4 q2w4 q2n4 q2p4 q2k5 q2w5 q2n5 q2p5
  have e20 := hr2.c 0 _ rfl
  have e21 := hr2.c 1 _ rfl
  have e22 := hr2.c 2 _ rfl
  have e23 := hr2.c 3 _ rfl
  have ef2 := hr2.fz
  have hg2 := Nat.lt_of_lt_of_le hg hB2.size
  have hrl2 := hr2.lt
  go_wp2_with fail
  have hrF := ((((hr2.set_ 0 (.string ⟨#[]⟩) _ rfl).set_ 1 (.string ⟨#[]⟩) _ rfl).set_ 2 (.slice none 0 0) _ rfl).set_ 3 (.int .i64 0) _ rfl)
  have hBF := Lib.hid ((((hB2.setCell (p := ⟨w.heap.size, 0, none⟩) (Nat.le_refl _) (.string ⟨#[]⟩)).setCell (p := ⟨w.heap.size, 1, none⟩) (Nat.le_refl _) (.string ⟨#[]⟩)).setCell (p := ⟨w.heap.size, 2, none⟩) (Nat.le_refl _) (.slice none 0 0)).setCell (p := ⟨w.heap.size, 3, none⟩) (Nat.le_refl _) (.int .i64 0))
  obtain ⟨V, hV⟩ : ∃ V, ((((v2.setCell ⟨w.heap.size, 0, none⟩ (.string ⟨#[]⟩)).setCell ⟨w.heap.size, 1, none⟩ (.string ⟨#[]⟩)).setCell ⟨w.heap.size, 2, none⟩ (.slice none 0 0)).setCell ⟨w.heap.size, 3, none⟩ (.int .i64 0)) = V := ⟨_, rfl⟩
  rw [hV] at hrF hBF ⊢
  clear hV
  have z0 := hrF.c 0 _ rfl
  have z1 := hrF.c 1 _ rfl
  have z2 := hrF.c 2 _ rfl
  have z3 := hrF.c 3 _ rfl
  refine bodyPost_ret (v := .tuple #[.agg #[.string ⟨#[]⟩, .string ⟨#[]⟩, .slice none 0 0, .int .i64 0], .bool false]) (by simp [results, Tryz.results21, go_sem, z0, z1, z2, z3]) rfl ?_
  exact ⟨hBF.out, rfl⟩
set_option maxRecDepth 100000 in
set_option maxHeartbeats 1600000 in
theorem rclass_x {g m cap : Nat} (h6 : m ≠ 6) (hc : m ≤ cap) (hg : g < w.heap.size) (at_ : Nat) :
    Calls Tryz.prog 21 #[.slice (some ⟨g, 0, none⟩) m cap, .int .i64 (at_ : Int)] w (fun e w' => Below w.heap.size w w' ∧ e = .returned (.tuple #[.agg #[.string ⟨#[]⟩, .string ⟨#[]⟩, .slice none 0 0, .int .i64 0], .bool false])) := by
  have h6' : ((m : Int) != 6) = true := by simp; omega
  clear h6
  go_enter Tryz.func21, Tryz.ntmps21
  go_wp2_with fail
  have hr0 := Blk.made (T := RCT) (cs := #[.string ⟨#[]⟩, .string ⟨#[]⟩, .slice none 0 0, .int .i64 0]) w
  have hB0 : Below w.heap.size w (w.alloc (.cells #[.string ⟨#[]⟩, .string ⟨#[]⟩, .slice none 0 0, .int .i64 0] RCT)) := (Below.refl _ _).alloc (Nat.le_refl _) _
  have hne : ¬ g = w.heap.size := by omega
  have z0 := hr0.c 0 _ rfl
  have z1 := hr0.c 1 _ rfl
  have z2 := hr0.c 2 _ rfl
  have z3 := hr0.c 3 _ rfl
  refine bodyPost_ret (v := .tuple #[.agg #[.string ⟨#[]⟩, .string ⟨#[]⟩, .slice none 0 0, .int .i64 0], .bool false]) (by simp [results, Tryz.results21, go_sem]) rfl ?_
  exact ⟨hB0, rfl⟩
end Ck
end Go.Proofs.YthdigbkcffihkaaGreatDoor
