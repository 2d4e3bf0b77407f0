/- Tokens in a row, read. · Where the lexer's errors stand. No program. · A token spelled, and read back. No program. · Quotes doubled: what the library's ReplaceAll does. No program. · Where the tokens of a text stand, and that each is spelled. No program. -/
import Derived.Test.YtfbhokdcnjekiaaGreatDoorLxWb
import Derived.Test.YtfbhokdcnjekiaaGreatDoorLxNa
import Derived.Test.YtfbhokdcnjekiaaGreatDoorLxP0
import Derived.Lib.Bytealg
import Derived.Lib.Replace
import Derived.Lib.IndexBytes
set_option linter.unusedVariables false
namespace Go.Proofs.YtfbhokdcnjekiaaGreatDoor
namespace Lx
theorem symR_err0 (r : Bytes) (p : Nat) (n : Int) (h : symR r = .error (p, n)) : p = 0 := by
 unfold symR at h
 split at h
 · cases h
 · split at h
   · split at h
     · cases h; rfl
     · split at h
       · cases h; rfl
       · split at h
         · cases h; rfl
         · cases h
   · split at h
     · cases h; rfl
     · split at h
       · cases h; rfl
       · cases h
theorem tokR_err0 (r : Bytes) (p : Nat) (n : Int) (h : tokR r = .error (p, n)) : p = 0 := by
 cases r with
 | nil => cases h
 | cons c t =>
  have h : tokC c t = .error (p, n) := h
  unfold tokC at h
  split at h
  · split at h
    · cases h; rfl
    · cases h
  · split at h
    · split at h
      · cases h
      · cases h; rfl
    · split at h
      · split at h
        · cases h; rfl
        · cases h
      · split at h
        · split at h
          · cases h; rfl
          · split at h
            · cases h; rfl
            · cases h
        · split at h
          · exact symR_err0 t p n h
          · split at h
            · split at h <;> cases h
            · split at h
              · cases h
              · split at h
                · cases h; rfl
                · cases h
theorem sk_err (r : Bytes) : ∀ (m : Option Nat) (p x : Nat), (∀ st, m = some st → st ≤ p) → sk m p r = .error x → x ≤ p + r.length := by
 induction r with
 | nil =>
  intro m p x hm h
  cases m with
  | none => cases h
  | some st => injection h with h; subst h; have := hm _ rfl; simp; omega
 | cons c t ih =>
  intro m p x hm h
  cases m with
  | none =>
   simp only [sk] at h
   split at h
   · have := ih _ _ _ (by intro st hst; cases hst) h; simp; omega
   · split at h
     · have := ih _ _ _ (by intro st hst; injection hst with hst; omega) h; simp; omega
     · cases h
  | some st =>
   have hst := hm _ rfl
   simp only [sk] at h
   split at h
   · have := ih _ _ _ (by intro st hst; cases hst) h; simp; omega
   · have := ih _ _ _ (by intro st' hst'; injection hst' with hst'; omega) h; simp; omega
theorem nextR_errle (r : Bytes) (p : Nat) (n : Int) (h : nextR r = .error (p, n)) : p ≤ r.length := by
 unfold nextR at h
 split at h
 · rename_i st hs
   cases h
   have := sk_err r none 0 _ (by intro st hst; cases hst) hs
   omega
 · rename_i k hs
   have := (sk_le r none 0 k hs).2
   split at h
   · rename_i q e he
     cases h
     have := tokR_err0 _ _ _ he
     omega
   · cases h
theorem symR_at (r : Bytes) (t : Tok) (n : Nat) (h : symR r = .ok (t, n)) : t.at_ = 0 := by
 unfold symR at h
 split at h
 · cases h; rfl
 · split at h
   · split at h
     · cases h
     · split at h
       · cases h
       · split at h
         · cases h
         · cases h; rfl
   · split at h
     · cases h
     · split at h
       · cases h
       · cases h; rfl
theorem tokR_at (r : Bytes) (t : Tok) (n : Nat) (h : tokR r = .ok (t, n)) : t.at_ = 0 := by
 cases r with
 | nil => cases h; rfl
 | cons c u =>
  have h : tokC c u = .ok (t, n) := h
  unfold tokC at h
  split at h
  · split at h
    · cases h
    · cases h; rfl
  · split at h
    · split at h
      · cases h; rfl
      · cases h
    · split at h
      · split at h
        · cases h
        · cases h; rfl
      · split at h
        · split at h
          · cases h
          · split at h
            · cases h
            · cases h; rfl
        · split at h
          · exact symR_at u t n h
          · split at h
            · split at h <;> (cases h; rfl)
            · split at h
              · cases h; rfl
              · split at h
                · cases h
                · cases h; rfl
/-- Where a token begins: behind blanks and notes. -/
theorem nextR_parts (r : Bytes) (t : Tok) (n : Nat) (h : nextR r = .ok (t, n)) : ∃ k m u, sk none 0 r = .ok k ∧ tokR (r.drop k) = .ok (u, m) ∧ t = { u with at_ := k } ∧ n = k + m ∧ k ≤ r.length := by
 unfold nextR at h
 split at h
 · cases h
 · rename_i k hs
   have hk := (sk_le r none 0 k hs).2
   split at h
   · cases h
   · rename_i u m hu
     injection h with h
     injection h with h1 h2
     refine ⟨k, m, u, hs, hu, ?_, h2.symm, by omega⟩
     rw [← h1, tokR_at _ _ _ hu, Nat.add_zero]
theorem nextR_at (r : Bytes) (t : Tok) (n : Nat) (h : nextR r = .ok (t, n)) : t.at_ ≤ r.length := by
 obtain ⟨k, m, u, _, _, rfl, _, hk⟩ := nextR_parts r t n h
 exact hk
/-- The last token of a list, and no other, is the end. -/
theorem allF_last : ∀ (f base : Nat) (r : Bytes) (l : List Tok), r.length < f → allF f base r = .ok l → ∃ l' t, l = l' ++ [t] ∧ t.kind = 0 ∧ ∀ u ∈ l', u.kind ≠ 0
 | 0, _, _, _, h, _ => by omega
 | f + 1, base, r, l, hf, h => by
  simp only [allF] at h
  cases hn : nextR r with
  | error y => rw [hn] at h; cases h
  | ok y =>
   obtain ⟨t, n⟩ := y
   rw [hn] at h
   simp only at h
   by_cases hk : t.kind = 0
   · rw [if_pos hk] at h
     injection h with h
     subst h
     exact ⟨[], _, rfl, hk, fun u hu => by cases hu⟩
   · rw [if_neg hk] at h
     obtain ⟨h1, h2⟩ := (nextR_ok r t n hn).2 hk
     cases hr : allF f (base + n) (r.drop n) with
     | error z => rw [hr] at h; cases h
     | ok l2 =>
      rw [hr] at h
      injection h with h
      subst h
      obtain ⟨l', t', e, h3, h4⟩ := allF_last f (base + n) (r.drop n) l2 (by rw [List.length_drop]; omega) hr
      refine ⟨_ :: l', t', by rw [e]; rfl, h3, fun u hu => ?_⟩
      rcases List.mem_cons.1 hu with rfl | hu
      · exact hk
      · exact h4 u hu
theorem allR_last (r : Bytes) (l : List Tok) (h : allR r = .ok l) : ∃ l' t, l = l' ++ [t] ∧ t.kind = 0 ∧ ∀ u ∈ l', u.kind ≠ 0 := allF_last _ _ r l (by omega) h
theorem allF_err : ∀ (f base : Nat) (r : Bytes) (p : Nat) (n : Int), allF f base r = .error (p, n) → n ≠ 0 ∧ p ≤ base + r.length
 | 0, _, _, _, _, h => by cases h
 | f + 1, base, r, p, n, h => by
  simp only [allF] at h
  cases hn : nextR r with
  | error y =>
   obtain ⟨q, e⟩ := y
   rw [hn] at h
   injection h with h
   injection h with h1 h2
   subst h1; subst h2
   exact ⟨nextR_err r q e hn, by have := nextR_errle r q e hn; omega⟩
  | ok y =>
   obtain ⟨t, m⟩ := y
   rw [hn] at h
   simp only at h
   by_cases hk : t.kind = 0
   · rw [if_pos hk] at h; cases h
   · rw [if_neg hk] at h
     obtain ⟨h1, h2⟩ := (nextR_ok r t m hn).2 hk
     cases hr : allF f (base + m) (r.drop m) with
     | error z =>
      obtain ⟨q, e⟩ := z
      rw [hr] at h
      injection h with h
      injection h with h3 h4
      subst h3; subst h4
      obtain ⟨h5, h6⟩ := allF_err f (base + m) (r.drop m) q e hr
      rw [List.length_drop] at h6
      exact ⟨h5, by omega⟩
     | ok l2 => rw [hr] at h; cases h
theorem allR_err (r : Bytes) (p : Nat) (n : Int) (h : allR r = .error (p, n)) : n ≠ 0 ∧ p ≤ r.length := by
 have := allF_err _ _ r p n h; omega
/-- All places lie within the text, and there are no more tokens than bytes, and the end. -/
theorem allF_in : ∀ (f base : Nat) (r : Bytes) (l : List Tok), r.length < f → allF f base r = .ok l → l.length ≤ r.length + 1 ∧ ∀ t ∈ l, t.at_ ≤ base + r.length
 | 0, _, _, _, h, _ => by omega
 | f + 1, base, r, l, hf, h => by
  simp only [allF] at h
  cases hn : nextR r with
  | error y => rw [hn] at h; cases h
  | ok y =>
   obtain ⟨t, n⟩ := y
   have hat := nextR_at r t n hn
   rw [hn] at h
   simp only at h
   by_cases hk : t.kind = 0
   · rw [if_pos hk] at h
     injection h with h
     subst h
     refine ⟨by simp, fun u hu => ?_⟩
     rw [List.mem_singleton] at hu
     subst hu
     simp only; omega
   · rw [if_neg hk] at h
     obtain ⟨h1, h2⟩ := (nextR_ok r t n hn).2 hk
     cases hr : allF f (base + n) (r.drop n) with
     | error z => rw [hr] at h; cases h
     | ok l2 =>
      rw [hr] at h
      injection h with h
      subst h
      obtain ⟨h3, h4⟩ := allF_in f (base + n) (r.drop n) l2 (by rw [List.length_drop]; omega) hr
      rw [List.length_drop] at h3 h4
      refine ⟨by simp; omega, fun u hu => ?_⟩
      rcases List.mem_cons.1 hu with rfl | hu
      · simp only; omega
      · have := h4 u hu; omega
theorem allR_in (r : Bytes) (l : List Tok) (h : allR r = .ok l) : l.length ≤ r.length + 1 ∧ ∀ t ∈ l, t.at_ ≤ r.length := by
 have := allF_in _ 0 r l (by omega) h
 rw [Nat.zero_add] at this; exact this
end Lx
end Go.Proofs.YtfbhokdcnjekiaaGreatDoor
namespace Go.Proofs.YtfbhokdcnjekiaaGreatDoor
namespace Lx
def esc : Bytes → Bytes
 | [] => []
 | c :: t => if c = 39 then 39 :: 39 :: esc t else c :: esc t
def quoteL (w : Bytes) : Bytes := 39 :: (esc w ++ [39])
/-- How many arguments a message of this name has; -1: it is none. -/
def arityP (w : Bytes) : Int :=
 if w = [] then -1 else if 64 < w.length then -1 else if kwL w = w.length then (Lib.countByte w 58) else if nameL w = w.length then 0 else if operL w = w.length then 1 else -1
/-- A token as it might be written. -/
def spelledL (k : Int) (w : Bytes) (n : Int) : Bytes :=
 if k = 1 ∨ k = 2 ∨ k = 6 then w
 else if k = 3 then Lib.itoa n
 else if k = 4 then quoteL w
 else if k = 5 then (if arityP w < 0 then 35 :: quoteL w else 35 :: w)
 else if 8 ≤ k ∧ k ≤ 14 then [singleL.getD (k - 8).toNat 0]
 else if k = 7 then [58, 61]
 else if k = 15 then [35, 40]
 else if k = 16 then [58]
 else []
/-- Is this text just this token? -/
def spellB (s : Bytes) (k : Int) (w : Bytes) (n : Int) : Bool :=
 match nextR s with
 | .error _ => false
 | .ok (t, m) => decide ((t.kind : Int) = k) && decide (t.word = w) && decide (t.num = n) && decide (t.at_ = 0) && decide (m = s.length)
theorem txt_esc : ∀ (w q : Bytes), hd q 0 ≠ 39 → txt (esc w ++ 39 :: q) = some (w, (esc w).length + 1)
 | [], q, hq => by
  show txt (39 :: q) = _
  cases q with
  | nil => simp [txt, esc]
  | cons d q =>
   have : d ≠ 39 := hq
   simp [txt, esc, this]
 | c :: w, q, hq => by
  have ih := txt_esc w q hq
  by_cases hc : c = 39
  · subst hc
    have e : esc (39 :: w) = 39 :: 39 :: esc w := by simp [esc]
    rw [e]
    show txt (39 :: 39 :: (esc w ++ 39 :: q)) = _
    rw [txt.eq_def]
    simp only [if_true]
    rw [ih]
    simp
  · have e : esc (c :: w) = c :: esc w := by simp [esc, hc]
    rw [e]
    show txt (c :: (esc w ++ 39 :: q)) = _
    rw [txt.eq_def]
    simp only
    rw [if_neg hc, ih]
    simp
theorem txt_cut : ∀ (t w : Bytes) (m : Nat), txt t = some (w, m) → t.take m = esc w ++ [39]
 | [], w, m, h => by simp [txt] at h
 | [c], w, m, h => by
  simp only [txt] at h
  split at h
  · rename_i hc; subst hc; cases h; rfl
  · simp at h
 | c :: d :: t, w, m, h => by
  rw [txt.eq_def] at h
  simp only at h
  split at h
  · rename_i hc
    split at h
    · rename_i hd'
      obtain ⟨y, hy, hx⟩ := Option.map_eq_some_iff.1 h
      obtain ⟨y1, y2⟩ := y
      have ih := txt_cut t y1 y2 hy
      injection hx with h1 h2
      subst h1; subst h2; subst hc; subst hd'
      simp only
      rw [List.take_succ_cons, List.take_succ_cons, ih]
      simp [esc]
    · cases h; subst hc; rfl
  · rename_i hc
    obtain ⟨y, hy, hx⟩ := Option.map_eq_some_iff.1 h
    obtain ⟨y1, y2⟩ := y
    have ih := txt_cut (d :: t) y1 y2 hy
    injection hx with h1 h2
    subst h1; subst h2
    simp only
    rw [List.take_succ_cons, ih]
    simp [esc, hc]
/-! ### cut texts -/
theorem hd_take (r : Bytes) (n i : Nat) (h : i < n) : hd (r.take n) i = hd r i := by
 unfold hd; rw [List.getD_eq_getElem?_getD, List.getElem?_take_of_lt h, ← List.getD_eq_getElem?_getD]
theorem hd_take0 (r : Bytes) (n i : Nat) (h : n ≤ i) : hd (r.take n) i = 0 := hd_out _ _ (by rw [List.length_take]; omega)
theorem tw_take (p : UInt8 → Bool) (r : Bytes) (n : Nat) : (r.take n).takeWhile p = (r.takeWhile p).take n := by
 induction r generalizing n with
 | nil => simp
 | cons c r ih =>
  cases n with
  | zero => simp
  | succ n =>
   rw [List.take_succ_cons, List.takeWhile_cons, List.takeWhile_cons]
   split
   · rw [List.take_succ_cons, ih]
   · simp
theorem nameL_take (r : Bytes) (n : Nat) (h : nameL r ≤ n) (hn : 0 < n) : nameL (r.take n) = nameL r := by
 unfold nameL at h ⊢
 rw [hd_take r n 0 hn]
 split
 · rename_i hl
   rw [if_pos hl] at h
   rw [tw_take, List.length_take]; omega
 · rfl
theorem colonB_nil : colonB [] = false := by decide
theorem hd_drop' (r : Bytes) (n i : Nat) : hd (r.drop n) i = hd r (n + i) := by
 unfold hd; rw [List.getD_eq_getElem?_getD, List.getElem?_drop, ← List.getD_eq_getElem?_getD]
theorem colon_take (r : Bytes) (k : Nat) (h : colonB (r.drop k) = true) : colonB ((r.take (k + 1)).drop k) = true := by
 unfold colonB at h ⊢
 simp only [hd_drop', Bool.and_eq_true, beq_iff_eq, bne_iff_ne] at h ⊢
 rw [hd_take r (k + 1) (k + 0) (by omega), hd_take0 r (k + 1) (k + 1) (by omega)]
 exact ⟨h.1, by decide⟩
theorem word_take (r : Bytes) (hl : 0 < nameL r) : nameL (r.take (wordL r)) = nameL r ∧ colonB ((r.take (wordL r)).drop (nameL r)) = colonB (r.drop (nameL r)) ∧ wordL (r.take (wordL r)) = wordL r := by
 cases hc : colonB (r.drop (nameL r))
 · have hw : wordL r = nameL r := by unfold wordL; rw [hc]; rfl
   have h1 := nameL_take r (nameL r) (Nat.le_refl _) hl
   have h2 : colonB ((r.take (nameL r)).drop (nameL r)) = false := by
    rw [List.drop_eq_nil_of_le (by rw [List.length_take]; omega)]; exact colonB_nil
   rw [hw]
   refine ⟨h1, h2, ?_⟩
   unfold wordL; rw [h1, h2]; rfl
 · have hw : wordL r = nameL r + 1 := by unfold wordL; rw [hc]; rfl
   have h1 := nameL_take r (nameL r + 1) (Nat.le_succ _) (Nat.succ_pos _)
   have h2 := colon_take r (nameL r) hc
   rw [hw]
   refine ⟨h1, h2, ?_⟩
   unfold wordL; rw [h1, h2]; rfl
theorem operL_take (r : Bytes) (h : operL r ≠ 0) : operL (r.take (operL r)) = operL r := by
 have hp : 0 < operL r := by omega
 unfold operL at h hp ⊢
 by_cases h1 : hd r 0 = 124
 · rw [if_pos h1, hd_take r 1 0 (by omega), if_pos h1]
 · rw [if_neg h1] at h hp ⊢
   by_cases h2 : opc (hd r 0) = true
   · rw [if_pos h2] at h hp ⊢
     by_cases h3 : (opc (hd r 1) && hd r 1 != 45) = true
     · rw [if_pos h3, hd_take r 2 0 (by omega), hd_take r 2 1 (by omega), if_neg h1, if_pos h2, if_pos h3]
     · rw [if_neg h3, hd_take r 1 0 (by omega), hd_take0 r 1 1 (by omega), if_neg h1, if_pos h2, if_neg (by decide)]
   · rw [if_neg h2] at h; exact absurd rfl h
/-! ### a token's text -/
theorem tok_letter' {r : Bytes} (hl : letter (hd r 0) = true) : tokR r = if 64 < wordL r then .error (0, 2) else .ok (⟨if colonB (r.drop (nameL r)) then 2 else 1, r.take (wordL r), 0, 0⟩, wordL r) := by
 cases r with
 | nil => exact absurd hl (by decide)
 | cons d t =>
  have hl : letter d = true := hl
  show tokC d t = _
  unfold tokC
  rw [if_pos hl]
theorem tok_of (c : UInt8) (t : Bytes) : tokR (c :: t) = tokC c t := rfl
theorem digit_not_letter {c : UInt8} (h : digit c = true) : letter c = false := by
 unfold digit at h; unfold letter
 simp only [Bool.and_eq_true, decide_eq_true_eq] at h
 simp only [Bool.or_eq_false_iff, Bool.and_eq_false_iff, decide_eq_false_iff_not]
 omega
theorem tw_all (p : UInt8 → Bool) : ∀ (l : Bytes), (∀ x ∈ l, p x = true) → l.takeWhile p = l
 | [], _ => rfl
 | c :: l, h => by
  rw [List.takeWhile_cons, if_pos (h c List.mem_cons_self), tw_all p l (fun x hx => h x (List.mem_cons_of_mem _ hx))]
theorem tok_digits (ds : Bytes) (hne : ds ≠ []) (hd' : ds.all digit = true) (hp : Sm.pe ds = 0) : tokR ds = .ok (⟨3, [], Sm.pv ds, 0⟩, ds.length) := by
 cases ds with
 | nil => exact absurd rfl hne
 | cons c t =>
  have htw : (c :: t).takeWhile digit = c :: t := tw_all digit _ (fun x hx => List.all_eq_true.1 hd' x hx)
  have hc : digit c = true := List.all_eq_true.1 hd' c List.mem_cons_self
  rw [tok_of]
  unfold tokC
  rw [digit_not_letter hc, if_neg (by decide), if_pos hc, htw, if_pos hp]
theorem isd_digit : Sm.isd = digit := rfl
theorem dec_tok (v : Int) (h0 : 0 ≤ v) (h1 : v ≤ 4611686018427387903) : tokR (Lib.itoa v) = .ok (⟨3, [], v, 0⟩, (Lib.itoa v).length) := by
 obtain ⟨k1, k2⟩ := Sm.itoa_read v
 have e1 : Sm.pe (Lib.itoa v) = 0 := by unfold Sm.pe; rw [if_pos k1, k2, if_pos ⟨by omega, h1⟩]
 have e2 : Sm.pv (Lib.itoa v) = v := by unfold Sm.pv; rw [if_pos e1, k2]
 have hit : Lib.itoa v = Lib.decDigits v.toNat := by unfold Lib.itoa; rw [if_neg (by omega)]
 obtain ⟨_, d2, d3⟩ := Sm.dec_read v.toNat
 have := tok_digits (Lib.itoa v) (by rw [hit]; exact d3) (by rw [hit, ← isd_digit]; exact d2) e1
 rw [e2] at this
 exact this
theorem digs_val (ds : Bytes) (hd' : ds.all digit = true) (hp : Sm.pe ds = 0) : 0 ≤ Sm.pv ds ∧ Sm.pv ds ≤ 4611686018427387903 := by
 have e2 : Sm.pv ds = Sm.num ds := by unfold Sm.pv; rw [if_pos hp]
 have h1 : Sm.num ds ≤ 4611686018427387903 := by
  unfold Sm.pe at hp
  split at hp
  · split at hp
    · rename_i h; exact h.2
    · exact absurd hp (by decide)
  · exact absurd hp (by decide)
 rw [e2]
 refine ⟨?_, h1⟩
 rcases Sm.digs_cases ds with ⟨r, e, _, _⟩ | ⟨_, e⟩
 · rw [e] at hd'; exact absurd (List.all_eq_true.1 hd' 45 List.mem_cons_self) (by decide)
 · unfold Sm.num; rw [e]; simp
set_option maxRecDepth 100000 in
theorem sgl_get {c : UInt8} {i : Nat} (h : sgl c = some i) : i ≤ 6 ∧ [singleL.getD i 0] = [c] ∧ letter c = false ∧ digit c = false ∧ c ≠ 36 ∧ c ≠ 39 ∧ c ≠ 35 ∧ c ≠ 58 := by
 have hh : ∀ n : Fin 256, (match sgl (UInt8.ofNat n.val) with | some i => decide (i ≤ 6) && decide ([singleL.getD i 0] = [UInt8.ofNat n.val]) && !letter (UInt8.ofNat n.val) && !digit (UInt8.ofNat n.val) && decide (UInt8.ofNat n.val ≠ 36) && decide (UInt8.ofNat n.val ≠ 39) && decide (UInt8.ofNat n.val ≠ 35) && decide (UInt8.ofNat n.val ≠ 58) | none => true) = true := by decide
 have := hh ⟨c.toNat, c.toNat_lt⟩
 simp only [UInt8.ofNat_toNat] at this
 rw [h] at this
 simp only [Bool.and_eq_true, decide_eq_true_eq, Bool.not_eq_true'] at this
 obtain ⟨⟨⟨⟨⟨⟨⟨a, b⟩, c1⟩, d⟩, e⟩, f⟩, g⟩, k⟩ := this
 exact ⟨a, b, c1, d, e, f, g, k⟩
theorem tok_mark {c : UInt8} {i : Nat} (h : sgl c = some i) (t : Bytes) : tokR (c :: t) = .ok (⟨8 + i, [], 0, 0⟩, 1) := by
 obtain ⟨_, _, h1, h2, h3, h4, h5, h6⟩ := sgl_get h
 rw [tok_of]; unfold tokC
 rw [h1, h2, if_neg (by decide), if_neg (by decide), if_neg h3, if_neg h4, if_neg h5, if_neg h6, h]
theorem quote_tok (w : Bytes) (h : w.length ≤ 4096) : tokR (quoteL w) = .ok (⟨4, w, 0, 0⟩, (quoteL w).length) := by
 have := txt_esc w [] (by decide)
 unfold quoteL
 rw [tok_of]; unfold tokC
 rw [show letter 39 = false by decide, show digit 39 = false by decide, if_neg (by decide), if_neg (by decide), if_neg (by decide), if_pos rfl, this]
 simp only
 rw [if_neg (by omega)]
 simp
theorem arity_ok {w : Bytes} (h : ¬ arityP w < 0) : w ≠ [] ∧ w.length ≤ 64 ∧ (kwL w = w.length ∨ nameL w = w.length ∨ operL w = w.length) := by
 unfold arityP at h
 by_cases h0 : w = []
 · rw [if_pos h0] at h; exact absurd (by decide) h
 · rw [if_neg h0] at h
   by_cases h1 : 64 < w.length
   · rw [if_pos h1] at h; exact absurd (by decide) h
   · rw [if_neg h1] at h
     refine ⟨h0, by omega, ?_⟩
     by_cases h2 : kwL w = w.length
     · exact .inl h2
     · rw [if_neg h2] at h
       by_cases h3 : nameL w = w.length
       · exact .inr (.inl h3)
       · rw [if_neg h3] at h
         by_cases h4 : operL w = w.length
         · exact .inr (.inr h4)
         · rw [if_neg h4] at h; exact absurd (by decide) h
theorem kwL_letter {r : Bytes} (h : letter (hd r 0) = false) : kwL r = 0 := by
 unfold kwL; simp only [kwF]
 have : nameL r = 0 := by unfold nameL; rw [h]; rfl
 rw [if_pos this]
theorem kwL_name {w : Bytes} (h : nameL w = w.length) : kwL w = 0 := by
 unfold kwL; simp only [kwF]
 split
 · rfl
 · rw [h, List.drop_length, colonB_nil]; rfl
set_option maxRecDepth 100000 in
theorem oper_letter {c : UInt8} (h : letter c = true) : c ≠ 124 ∧ opc c = false := by
 have hh : ∀ n : Fin 256, letter (UInt8.ofNat n.val) = true → (UInt8.ofNat n.val ≠ 124 ∧ opc (UInt8.ofNat n.val) = false) := by decide
 have := hh ⟨c.toNat, c.toNat_lt⟩
 simp only [UInt8.ofNat_toNat] at this
 exact this h
theorem sym_len {w : Bytes} (hw : w ≠ []) (h : kwL w = w.length ∨ nameL w = w.length ∨ operL w = w.length) : symL w = w.length ∧ hd w 0 ≠ 40 ∧ hd w 0 ≠ 39 := by
 have hp : 0 < w.length := List.length_pos_iff.2 hw
 cases hl : letter (hd w 0)
 · have h1 : kwL w = 0 := kwL_letter hl
   have h2 : nameL w = 0 := by unfold nameL; rw [hl]; rfl
   have h3 : operL w = w.length := by rcases h with h | h | h <;> omega
   refine ⟨by unfold symL; rw [hl]; exact h3, ?_, ?_⟩ <;> intro e
   · have : operL w = 0 := by unfold operL; rw [e, if_neg (by decide), if_neg (by decide)]
     omega
   · have : operL w = 0 := by unfold operL; rw [e, if_neg (by decide), if_neg (by decide)]
     omega
 · obtain ⟨o1, o2⟩ := oper_letter hl
   have h3 : operL w = 0 := by unfold operL; rw [if_neg o1, o2]; rfl
   refine ⟨?_, by intro e; rw [e] at hl; exact absurd hl (by decide), by intro e; rw [e] at hl; exact absurd hl (by decide)⟩
   unfold symL; rw [if_pos hl]
   by_cases hk : kwL w = 0
   · rw [if_pos hk]; rcases h with h | h | h <;> omega
   · rw [if_neg hk]
     rcases h with h | h | h
     · exact h
     · exact absurd (kwL_name h) hk
     · omega
theorem hash_tok (w : Bytes) (h : w.length ≤ 64) : tokR (if arityP w < 0 then 35 :: quoteL w else 35 :: w) = .ok (⟨5, w, 0, 0⟩, (if arityP w < 0 then 35 :: quoteL w else 35 :: w).length) := by
 by_cases ha : arityP w < 0
 · rw [if_pos ha]
   have hx := txt_esc w [] (by decide)
   have : tokR (35 :: quoteL w) = symR (quoteL w) := rfl
   rw [this]
   unfold symR quoteL
   rw [show hd (39 :: (esc w ++ [39])) 0 = 39 from rfl, if_neg (by decide), if_pos rfl, List.drop_succ_cons, List.drop_zero, hx]
   simp only
   rw [if_neg (by omega), if_neg (by omega)]
   simp
 · rw [if_neg ha]
   obtain ⟨h0, h1, h2⟩ := arity_ok ha
   obtain ⟨h3, h4, h5⟩ := sym_len h0 h2
   have : tokR (35 :: w) = symR w := rfl
   rw [this]
   unfold symR
   have hp : 0 < w.length := List.length_pos_iff.2 h0
   rw [if_neg h4, if_neg h5, h3, if_neg (by omega), if_neg (by omega), List.take_length]
   simp
/-- Where a token is plain, its text is how it stood. -/
def plainK (k : Int) : Prop := k ≠ 3 ∧ k ≠ 5
theorem sp1 (w : Bytes) (n : Int) {k : Int} (h : k = 1 ∨ k = 2 ∨ k = 6) : spelledL k w n = w := by unfold spelledL; rw [if_pos h]
theorem sp3 (w : Bytes) (n : Int) : spelledL 3 w n = Lib.itoa n := by unfold spelledL; rw [if_neg (by decide), if_pos rfl]
theorem sp4 (w : Bytes) (n : Int) : spelledL 4 w n = quoteL w := by unfold spelledL; rw [if_neg (by decide), if_neg (by decide), if_pos rfl]
theorem sp5 (w : Bytes) (n : Int) : spelledL 5 w n = if arityP w < 0 then 35 :: quoteL w else 35 :: w := by unfold spelledL; rw [if_neg (by decide), if_neg (by decide), if_neg (by decide), if_pos rfl]
theorem sp8 (w : Bytes) (n : Int) (i : Nat) (h : i ≤ 6) : spelledL ((8 + i : Nat) : Int) w n = [singleL.getD i 0] := by
 unfold spelledL
 rw [if_neg (by omega), if_neg (by omega), if_neg (by omega), if_neg (by omega), if_pos (by omega)]
 rw [show (((8 + i : Nat) : Int) - 8).toNat = i by omega]
theorem sp7 (w : Bytes) (n : Int) : spelledL 7 w n = [58, 61] := by unfold spelledL; rfl
theorem sp15 (w : Bytes) (n : Int) : spelledL 15 w n = [35, 40] := by unfold spelledL; rfl
theorem sp16 (w : Bytes) (n : Int) : spelledL 16 w n = [58] := by unfold spelledL; rfl
/-- A token's text is read as the token. -/
def Good (r : Bytes) (t : Tok) (n : Nat) : Prop :=
 tokR (spelledL (t.kind : Int) t.word t.num) = .ok (t, (spelledL (t.kind : Int) t.word t.num).length) ∧ (plainK (t.kind : Int) → spelledL (t.kind : Int) t.word t.num = r.take n)
theorem spell_tok (r : Bytes) (t : Tok) (n : Nat) (hr : r ≠ []) (h : tokR r = .ok (t, n)) : Good r t n := by
 cases r with
 | nil => exact absurd rfl hr
 | cons c r =>
  rw [tok_of] at h
  unfold tokC at h
  by_cases h1 : letter c = true
  · rw [if_pos h1] at h
    by_cases h2 : 64 < wordL (c :: r)
    · rw [if_pos h2] at h; cases h
    · rw [if_neg h2] at h
      have hnp := name_pos c r h1
      obtain ⟨a1, a2, a3⟩ := word_take (c :: r) hnp
      have hwp := word_pos c r h1
      have hwl := wordL_le (c :: r)
      have hl1 : letter (hd ((c :: r).take (wordL (c :: r))) 0) = true := by rw [hd_take _ _ _ hwp]; exact h1
      have ht := tok_letter' hl1
      rw [a1, a2, a3, if_neg h2, List.take_take, Nat.min_self] at ht
      injection h with h
      injection h with h3 h4
      subst h3; subst h4
      unfold Good
      simp only
      have hk : (((if colonB (List.drop (nameL (c :: r)) (c :: r)) = true then 2 else 1 : Nat)) : Int) = 1 ∨ (((if colonB (List.drop (nameL (c :: r)) (c :: r)) = true then 2 else 1 : Nat)) : Int) = 2 ∨ (((if colonB (List.drop (nameL (c :: r)) (c :: r)) = true then 2 else 1 : Nat)) : Int) = 6 := by split <;> simp
      rw [sp1 _ _ hk]
      refine ⟨?_, fun _ => rfl⟩
      rw [ht, List.length_take, Nat.min_eq_left hwl]
  · rw [if_neg h1] at h
    by_cases h2 : digit c = true
    · rw [if_pos h2] at h
      by_cases h3 : Sm.pe ((c :: r).takeWhile digit) = 0
      · rw [if_pos h3] at h
        injection h with h
        injection h with h4 h5
        subst h4
        have hall : ((c :: r).takeWhile digit).all digit = true := List.all_takeWhile
        obtain ⟨v0, v1⟩ := digs_val _ hall h3
        unfold Good
        simp only
        rw [show ((3 : Nat) : Int) = 3 from rfl, sp3]
        exact ⟨dec_tok _ v0 v1, fun hp => absurd rfl hp.1⟩
      · rw [if_neg h3] at h; cases h
    · rw [if_neg h2] at h
      by_cases h3 : c = 36
      · rw [if_pos h3] at h
        by_cases h4 : r = []
        · rw [if_pos h4] at h; cases h
        · rw [if_neg h4] at h
          injection h with h
          injection h with h5 h6
          subst h5
          unfold Good
          simp only
          rw [show ((3 : Nat) : Int) = 3 from rfl, sp3]
          have := (hd r 0).toNat_lt
          exact ⟨dec_tok _ (by omega) (by omega), fun hp => absurd rfl hp.1⟩
      · rw [if_neg h3] at h
        by_cases h4 : c = 39
        · rw [if_pos h4] at h
          cases hx : txt r with
          | none => rw [hx] at h; cases h
          | some x =>
           obtain ⟨w, m⟩ := x
           rw [hx] at h
           simp only at h
           by_cases h5 : 4096 < w.length
           · rw [if_pos h5] at h; cases h
           · rw [if_neg h5] at h
             injection h with h
             injection h with h6 h7
             subst h6; subst h7
             unfold Good
             simp only
             rw [show ((4 : Nat) : Int) = 4 from rfl, sp4]
             refine ⟨quote_tok w (by omega), fun _ => ?_⟩
             rw [List.take_succ_cons, txt_cut r w m hx, h4]; rfl
        · rw [if_neg h4] at h
          by_cases h5 : c = 35
          · rw [if_pos h5] at h
            unfold symR at h
            by_cases h6 : hd r 0 = 40
            · rw [if_pos h6] at h
              injection h with h
              injection h with h7 h8
              subst h7; subst h8; subst h5
              cases r with
              | nil => exact absurd h6 (by decide)
              | cons d r =>
               obtain rfl : d = 40 := h6
               exact ⟨by rfl, fun _ => rfl⟩
            · rw [if_neg h6] at h
              by_cases h7 : hd r 0 = 39
              · rw [if_pos h7] at h
                cases hx : txt (r.drop 1) with
                | none => rw [hx] at h; cases h
                | some x =>
                 obtain ⟨w, m⟩ := x
                 rw [hx] at h
                 simp only at h
                 by_cases h8 : 4096 < w.length
                 · rw [if_pos h8] at h; cases h
                 · rw [if_neg h8] at h
                   by_cases h9 : 64 < w.length
                   · rw [if_pos h9] at h; cases h
                   · rw [if_neg h9] at h
                     injection h with h
                     injection h with ha hb
                     subst ha
                     unfold Good
                     simp only
                     rw [show ((5 : Nat) : Int) = 5 from rfl, sp5]
                     exact ⟨hash_tok w (by omega), fun hp => absurd rfl hp.2⟩
              · rw [if_neg h7] at h
                by_cases h8 : symL r = 0
                · rw [if_pos h8] at h; cases h
                · rw [if_neg h8] at h
                  by_cases h9 : 64 < symL r
                  · rw [if_pos h9] at h; cases h
                  · rw [if_neg h9] at h
                    injection h with h
                    injection h with ha hb
                    subst ha
                    unfold Good
                    simp only
                    rw [show ((5 : Nat) : Int) = 5 from rfl, sp5]
                    exact ⟨hash_tok _ (by rw [List.length_take]; omega), fun hp => absurd rfl hp.2⟩
          · rw [if_neg h5] at h
            by_cases h6 : c = 58
            · rw [if_pos h6] at h
              by_cases h7 : hd r 0 = 61
              · rw [if_pos h7] at h
                injection h with h
                injection h with h8 h9
                subst h8; subst h9; subst h6
                cases r with
                | nil => exact absurd h7 (by decide)
                | cons d r =>
                 obtain rfl : d = 61 := h7
                 exact ⟨by rfl, fun _ => rfl⟩
              · rw [if_neg h7] at h
                injection h with h
                injection h with h8 h9
                subst h8; subst h9; subst h6
                exact ⟨by rfl, fun _ => rfl⟩
            · rw [if_neg h6] at h
              cases hs : sgl c with
              | some i =>
               rw [hs] at h
               injection h with h
               injection h with h8 h9
               subst h8; subst h9
               obtain ⟨g1, g2, _⟩ := sgl_get hs
               unfold Good
               simp only
               rw [sp8 _ _ i g1, g2]
               exact ⟨tok_mark hs [], fun _ => rfl⟩
              | none =>
               rw [hs] at h
               simp only at h
               by_cases h7 : operL (c :: r) = 0
               · rw [if_pos h7] at h; cases h
               · rw [if_neg h7] at h
                 have hol := operL_le (c :: r)
                 have hot := operL_take (c :: r) h7
                 injection h with h
                 injection h with h8 h9
                 subst h8; subst h9
                 unfold Good
                 simp only
                 rw [sp1 (k := ((6 : Nat) : Int)) _ _ (Or.inr (Or.inr rfl))]
                 refine ⟨?_, fun _ => rfl⟩
                 obtain ⟨m, hm⟩ : ∃ m, operL (c :: r) = m + 1 := ⟨operL (c :: r) - 1, by omega⟩
                 rw [hm] at hot hol ⊢
                 rw [List.take_succ_cons] at hot ⊢
                 rw [tok_of]; unfold tokC
                 rw [if_neg h1, if_neg h2, if_neg h3, if_neg h4, if_neg h5, if_neg h6, hs]
                 simp only
                 rw [hot, if_neg (by omega), List.take_of_length_le (by simp; omega)]
                 simp at hol ⊢
                 omega
end Lx
end Go.Proofs.YtfbhokdcnjekiaaGreatDoor
namespace Go.Proofs.YtfbhokdcnjekiaaGreatDoor
namespace Lx
theorem idx_pos (c : UInt8) : ∀ (l : Bytes), Lib.indexByte l c = -1 ∨ 0 ≤ Lib.indexByte l c := index_none' c
where index_none' (c : UInt8) : ∀ (l : Bytes), Lib.indexByte l c = -1 ∨ 0 ≤ Lib.indexByte l c
 | [] => .inl rfl
 | b :: l => by
  simp only [Lib.indexByte]
  split
  · right; omega
  · split
    · left; rfl
    · rename_i h1 h2
      rcases index_none' c l with h | h
      · rw [h] at h2; exact absurd rfl h2
      · right; omega
theorem rep_esc : ∀ (s : Bytes) (k : Nat), s.count 39 ≤ k → Lib.replaceK [39] [39, 39] k s = esc s
 | [], 0, _ => rfl
 | [], k + 1, _ => by unfold Lib.replaceK; rw [Lib.index_one]; rfl
 | c :: t, 0, h => by
  have hc : c ≠ 39 := by intro e; subst e; simp at h
  have ih := rep_esc t 0 (by rw [List.count_cons_of_ne hc] at h; exact h)
  unfold Lib.replaceK at ih ⊢
  simp only [esc]; rw [if_neg hc, ← ih]
 | c :: t, k + 1, h => by
  by_cases hc : c = 39
  · subst hc
    have ih := rep_esc t k (by rw [List.count_cons_self] at h; omega)
    have hi : Lib.index (39 :: t) [39] = (0 : Nat) := by rw [Lib.index_one]; rfl
    rw [Lib.replaceK_hit _ _ _ _ 0 hi]
    simp only [List.take_zero, List.nil_append, List.length_singleton, Nat.zero_add, List.drop_succ_cons, List.drop_zero]
    rw [ih]; simp [esc]
  · have hcount : t.count 39 ≤ k + 1 := by rw [List.count_cons_of_ne hc] at h; exact h
    have ih := rep_esc t (k + 1) hcount
    have hb : (c == 39) = false := by simpa using hc
    have hix : Lib.indexByte (c :: t) 39 = if Lib.indexByte t 39 == -1 then -1 else Lib.indexByte t 39 + 1 := by
     simp only [Lib.indexByte, hb]; rfl
    simp only [esc]; rw [if_neg hc, ← ih]
    rcases idx_pos 39 t with h1 | h1
    · have h2 : Lib.indexByte (c :: t) 39 = -1 := by rw [hix, h1]; rfl
      unfold Lib.replaceK
      rw [Lib.index_one, Lib.index_one, h1, h2]; rfl
    · obtain ⟨i, hi⟩ : ∃ i : Nat, Lib.indexByte t 39 = i := ⟨_, (Int.toNat_of_nonneg h1).symm⟩
      have h2 : Lib.indexByte (c :: t) 39 = ((i + 1 : Nat) : Int) := by
       rw [hix, hi, if_neg (by simp)]; rfl
      rw [Lib.replaceK_hit _ _ _ t i (by rw [Lib.index_one]; exact hi), Lib.replaceK_hit _ _ _ (c :: t) (i + 1) (by rw [Lib.index_one]; exact h2)]
      simp only [List.length_singleton, List.take_succ_cons, List.cons_append]
      congr 3
theorem replace_esc (w : Bytes) : Lib.replaceAll w [39] [39, 39] = esc w := by
 unfold Lib.replaceAll Lib.replace
 rw [if_neg (by decide)]
 have : Lib.replaceNum w [39] (-1) = w.count 39 := by
  unfold Lib.replaceNum; rw [if_pos (Or.inl (by decide)), Lib.count_one]
 rw [this]
 exact rep_esc w _ (Nat.le_refl _)
theorem esc_len (w : Bytes) : (esc w).length = w.length + w.count 39 := by
 induction w with
 | nil => rfl
 | cons c t ih =>
  simp only [esc]
  by_cases hc : c = 39
  · subst hc; rw [if_pos rfl, List.count_cons_self]; simp; omega
  · rw [if_neg hc, List.count_cons_of_ne hc]; simp; omega
end Lx
end Go.Proofs.YtfbhokdcnjekiaaGreatDoor
namespace Go.Proofs.YtfbhokdcnjekiaaGreatDoor
namespace Lx
set_option maxRecDepth 100000 in
theorem sep_facts (c : UInt8) (h : blank c = true ∨ c = 34) : letter c = false ∧ digit c = false ∧ c ≠ 36 ∧ c ≠ 39 ∧ c ≠ 35 ∧ c ≠ 58 ∧ sgl c = none ∧ c ≠ 124 ∧ opc c = false := by
 have hh : ∀ n : Fin 256, (!(blank (UInt8.ofNat n.val) || decide (UInt8.ofNat n.val = 34)) || (!letter (UInt8.ofNat n.val) && !digit (UInt8.ofNat n.val) && decide (UInt8.ofNat n.val ≠ 36) && decide (UInt8.ofNat n.val ≠ 39) && decide (UInt8.ofNat n.val ≠ 35) && decide (UInt8.ofNat n.val ≠ 58) && decide (sgl (UInt8.ofNat n.val) = none) && decide (UInt8.ofNat n.val ≠ 124) && !opc (UInt8.ofNat n.val))) = true := by decide
 have := hh ⟨c.toNat, c.toNat_lt⟩
 simp only [UInt8.ofNat_toNat] at this
 have hb : (blank c || decide (c = 34)) = true := by rcases h with h | h <;> simp [h]
 rw [hb] at this
 simp only [Bool.not_true, Bool.false_or, Bool.and_eq_true, decide_eq_true_eq, Bool.not_eq_true'] at this
 obtain ⟨⟨⟨⟨⟨⟨⟨⟨a, b⟩, c1⟩, d⟩, e⟩, f⟩, g⟩, i⟩, j⟩ := this
 exact ⟨a, b, c1, d, e, f, g, i, j⟩
theorem tok_sep (c : UInt8) (t : Bytes) (h : blank c = true ∨ c = 34) : tokR (c :: t) = .error (0, 3) := by
 obtain ⟨a, b, c1, d, e, f, g, i, j⟩ := sep_facts c h
 rw [tok_of]; unfold tokC
 have ho : operL (c :: t) = 0 := by
  unfold operL
  rw [if_neg (show ¬ hd (c :: t) 0 = 124 from i), show opc (hd (c :: t) 0) = false from j]; rfl
 rw [a, b, if_neg (by decide), if_neg (by decide), if_neg c1, if_neg d, if_neg e, if_neg f, g]
 simp only
 rw [if_pos ho]
theorem sk_tok (s : Bytes) (u : Tok) (n : Nat) (h : tokR s = .ok (u, n)) : sk none 0 s = .ok 0 := by
 cases s with
 | nil => rfl
 | cons c t =>
  simp only [sk]
  by_cases hb : blank c = true
  · rw [tok_sep c t (.inl hb)] at h; cases h
  · rw [if_neg hb]
    by_cases h34 : c = 34
    · rw [tok_sep c t (.inr h34)] at h; cases h
    · rw [if_neg h34]
theorem next_tokR (s : Bytes) (u : Tok) (n : Nat) (h : tokR s = .ok (u, n)) : nextR s = .ok (u, n) := by
 unfold nextR
 rw [sk_tok s u n h]
 simp only
 rw [List.drop_zero, h]
 simp only [Nat.zero_add]
def sp (t : Tok) : Bytes := spelledL (t.kind : Int) t.word t.num
instance (k : Int) : Decidable (plainK k) := inferInstanceAs (Decidable (k ≠ 3 ∧ k ≠ 5))
def lastOf (t : Tok) : Nat := if plainK (t.kind : Int) then t.at_ + (sp t).length else t.at_ + 1
/-- A token can be written, and stands as it is written where it is plain. -/
def Okt (S : Bytes) (t : Tok) : Prop :=
 spellB (sp t) (t.kind : Int) t.word t.num = true ∧ (plainK (t.kind : Int) → t.at_ + (sp t).length ≤ S.length ∧ (S.drop t.at_).take (sp t).length = sp t)
def Placed (S : Bytes) : Nat → List Tok → Prop
 | _, [] => False
 | last, t :: l => last ≤ t.at_ ∧ t.at_ ≤ S.length ∧ Okt S t ∧ ((l = [] ∧ t.kind = 0) ∨ (l ≠ [] ∧ t.kind ≠ 0 ∧ Placed S (lastOf t) l))
theorem spell_ok (u : Tok) (hu : u.at_ = 0) (h : tokR (sp u) = .ok (u, (sp u).length)) : spellB (sp u) (u.kind : Int) u.word u.num = true := by
 unfold spellB
 rw [next_tokR _ _ _ h]
 simp [hu]
theorem allF_placed (S : Bytes) : ∀ (f base : Nat) (l : List Tok), base ≤ S.length → S.length - base < f → allF f base (S.drop base) = .ok l → ∀ last, last ≤ base → Placed S last l
 | 0, _, _, _, h, _, _, _ => by omega
 | f + 1, base, l, hb, hf, h, last, hl => by
  simp only [allF] at h
  cases hn : nextR (S.drop base) with
  | error y => rw [hn] at h; cases h
  | ok y =>
   obtain ⟨t, n⟩ := y
   obtain ⟨k, m, u, hsk, htk, ht, hnm, hk⟩ := nextR_parts _ t n hn
   have hu0 := tokR_at _ _ _ htk
   rw [List.length_drop] at hk
   rw [List.drop_drop] at htk
   rw [hn] at h
   simp only at h
   have htk0 := tokR_kind _ u m htk
   have hkind : t.kind = u.kind := by rw [ht]
   have hword : t.word = u.word := by rw [ht]
   have hnum : t.num = u.num := by rw [ht]
   have hat : t.at_ = k := by rw [ht]
   have hsp : sp { t with at_ := base + t.at_ } = sp u := by unfold sp; simp only [hkind, hword, hnum]
   by_cases hk0 : t.kind = 0
   · rw [if_pos hk0] at h
     injection h with h
     subst h
     refine ⟨by simp only; omega, by simp only; omega, ?_, Or.inl ⟨rfl, hk0⟩⟩
     rcases htk0 with ⟨_, e, _⟩ | ⟨_, e, _⟩
     · have hs : sp { t with at_ := base + t.at_ } = [] := by rw [hsp, e]; rfl
       unfold Okt
       rw [hs]
       simp only [hkind, hword, hnum]
       rw [e]
       refine ⟨by rfl, fun _ => ⟨?_, rfl⟩⟩
       simp only [List.length_nil]; omega
     · exact absurd (hkind ▸ hk0) e
   · rw [if_neg hk0] at h
     obtain ⟨h1, h2⟩ := (nextR_ok _ t n hn).2 hk0
     rw [List.length_drop] at h2
     rw [List.drop_drop] at h
     cases hr : allF f (base + n) (S.drop (base + n)) with
     | error z => rw [hr] at h; cases h
     | ok l2 =>
      rw [hr] at h
      injection h with h
      subst h
      have hne : S.drop (base + k) ≠ [] := by
       rcases htk0 with ⟨_, e, _⟩ | ⟨e, _⟩
       · exact absurd (by rw [hkind, e]) hk0
       · exact e
      have hmle : 0 < m ∧ m ≤ S.length - (base + k) := by
       rcases htk0 with ⟨e, _⟩ | ⟨_, _, e1, e2⟩
       · exact absurd e hne
       · rw [List.length_drop] at e2; exact ⟨e1, e2⟩
      obtain ⟨g1, g2⟩ := spell_tok _ u m hne htk
      have hpl : plainK (u.kind : Int) → (sp u).length = m := fun hp => by
       have := g2 hp
       unfold sp
       rw [this, List.length_take, List.length_drop]; omega
      have hok : Okt S { t with at_ := base + t.at_ } := by
       unfold Okt
       rw [hsp]
       simp only [hkind, hword, hnum, hat]
       refine ⟨spell_ok u hu0 g1, fun hp => ?_⟩
       rw [hpl hp]
       exact ⟨by omega, (g2 hp).symm⟩
      have hlast : lastOf { t with at_ := base + t.at_ } ≤ base + n := by
       unfold lastOf
       rw [hsp]
       simp only [hkind, hat]
       split
       · rename_i hp; rw [hpl hp]; omega
       · omega
      have ih := allF_placed S f (base + n) l2 (by omega) (by omega) hr _ hlast
      refine ⟨by simp only; omega, by simp only; omega, hok, Or.inr ⟨?_, hk0, ih⟩⟩
      intro e; rw [e] at ih; exact ih
theorem allR_placed (S : Bytes) (l : List Tok) (h : allR S = .ok l) : Placed S 0 l :=
 allF_placed S (S.length + 1) 0 l (Nat.zero_le _) (by omega) (by rw [List.drop_zero]; exact h) 0 (Nat.le_refl _)
/-- What a token's parts are at most. -/
def Small (t : Tok) : Prop := t.kind ≤ 16 ∧ 0 ≤ t.num ∧ t.num ≤ 4611686018427387903 ∧ t.word.length ≤ 4096
theorem symR_in (r : Bytes) (t : Tok) (n : Nat) (h : symR r = .ok (t, n)) : Small t := by
 unfold symR at h
 split at h
 · cases h; exact ⟨by decide, by decide, by decide, by decide⟩
 · split at h
   · split at h
     · cases h
     · split at h
       · cases h
       · split at h
         · cases h
         · rename_i h1 h2; cases h; exact ⟨by simp only; omega, by simp only; omega, by simp only; omega, by simp only; omega⟩
   · split at h
     · cases h
     · split at h
       · cases h
       · rename_i h1 h2; cases h; exact ⟨by simp only; omega, by simp only; omega, by simp only; omega, by simp only [List.length_take]; omega⟩
theorem tokR_in (r : Bytes) (t : Tok) (n : Nat) (h : tokR r = .ok (t, n)) : Small t := by
 cases r with
 | nil => cases h; exact ⟨by decide, by decide, by decide, by decide⟩
 | cons c u =>
  have h : tokC c u = .ok (t, n) := h
  unfold tokC at h
  split at h
  · split at h
    · cases h
    · rename_i h1 h2; cases h; exact ⟨by simp only; split <;> omega, by simp only; omega, by simp only; omega, by simp only [List.length_take]; omega⟩
  · split at h
    · split at h
      · rename_i h3
        cases h
        have := digs_val _ (List.all_takeWhile (p := digit) (l := c :: u)) h3
        exact ⟨by simp only; omega, this.1, this.2, by simp⟩
      · cases h
    · split at h
      · split at h
        · cases h
        · cases h
          have := (hd u 0).toNat_lt
          exact ⟨by simp only; omega, by simp only; omega, by simp only; omega, by simp⟩
      · split at h
        · split at h
          · cases h
          · split at h
            · cases h
            · rename_i h1 h2; cases h; exact ⟨by simp only; omega, by simp only; omega, by simp only; omega, by simp only; omega⟩
        · split at h
          · exact symR_in u t n h
          · split at h
            · split at h <;> (cases h; exact ⟨by simp only; omega, by simp only; omega, by simp only; omega, by simp⟩)
            · split at h
              · rename_i i hs; cases h; have := (sgl_get hs).1; exact ⟨by simp only; omega, by simp only; omega, by simp only; omega, by simp⟩
              · split at h
                · cases h
                · cases h
                  have h2 : operL (c :: u) ≤ 2 := by unfold operL; split <;> (try split) <;> (try split) <;> omega
                  exact ⟨by simp only; omega, by simp only; omega, by simp only; omega, by simp only [List.length_take]; omega⟩
theorem allF_small : ∀ (f base : Nat) (r : Bytes) (l : List Tok), r.length < f → allF f base r = .ok l → ∀ t ∈ l, Small t
 | 0, _, _, _, h, _ => by omega
 | f + 1, base, r, l, hf, h => by
  simp only [allF] at h
  cases hn : nextR r with
  | error y => rw [hn] at h; cases h
  | ok y =>
   obtain ⟨t, n⟩ := y
   obtain ⟨k, m, u, _, htk, ht, _, _⟩ := nextR_parts r t n hn
   have hs : Small t := by rw [ht]; exact tokR_in _ u m htk
   rw [hn] at h
   simp only at h
   by_cases hk : t.kind = 0
   · rw [if_pos hk] at h
     injection h with h
     subst h
     intro v hv
     rw [List.mem_singleton] at hv
     subst hv
     exact hs
   · rw [if_neg hk] at h
     obtain ⟨h1, h2⟩ := (nextR_ok r t n hn).2 hk
     cases hr : allF f (base + n) (r.drop n) with
     | error z => rw [hr] at h; cases h
     | ok l2 =>
      rw [hr] at h
      injection h with h
      subst h
      intro v hv
      rcases List.mem_cons.1 hv with rfl | hv
      · exact hs
      · exact allF_small f (base + n) (r.drop n) l2 (by rw [List.length_drop]; omega) hr v hv
theorem allR_small (r : Bytes) (l : List Tok) (h : allR r = .ok l) : ∀ t ∈ l, Small t := allF_small _ 0 r l (by omega) h
end Lx
end Go.Proofs.YtfbhokdcnjekiaaGreatDoor
