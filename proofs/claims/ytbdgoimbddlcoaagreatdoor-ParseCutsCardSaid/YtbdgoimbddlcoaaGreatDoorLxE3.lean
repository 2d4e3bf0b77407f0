/- Tokens in a row, read. · Where the lexer's errors stand. No program. · A token spelled, and read back. No program. · Quotes doubled: what the library's ReplaceAll does. No program. · Where the tokens of a text stand, and that each is spelled. No program. -/
import Derived.Test.YtbdgoimbddlcoaaGreatDoorLxWb
import Derived.Test.YtbdgoimbddlcoaaGreatDoorLxNa
import Derived.Test.YtbdgoimbddlcoaaGreatDoorLxP0
import Derived.Lib.Bytealg
import Derived.Lib.Replace
import Derived.Lib.IndexBytes
set_option linter.unusedVariables false
namespace Go.Proofs.YtbdgoimbddlcoaaGreatDoor
namespace Lx
theorem symR_err0 (r : Bytes) (p : Nat) (n : Int) (h : symR r = .error (p, n)) : p = 0 := by
 unfold symR at h
 split at h
 · cases h
 · split at h
   · split at h
     · cases h; rfl
     · split at h
       · cases h; rfl
       · split at h
         · cases h; rfl
         · cases h
   · split at h
     · cases h; rfl
     · split at h
       · cases h; rfl
       · cases h
theorem tokR_err0 (r : Bytes) (p : Nat) (n : Int) (h : tokR r = .error (p, n)) : p = 0 := by
 cases r with
 | nil => cases h
 | cons c t =>
  have h : tokC c t = .error (p, n) := h
  unfold tokC at h
  split at h
  · split at h
    · cases h; rfl
    · cases h
  · split at h
    · split at h
      · cases h
      · cases h; rfl
    · split at h
      · split at h
        · cases h; rfl
        · cases h
      · split at h
        · split at h
          · cases h; rfl
          · split at h
            · cases h; rfl
            · cases h
        · split at h
          · exact symR_err0 t p n h
          · split at h
            · split at h <;> cases h
            · split at h
              · cases h
              · split at h
                · cases h; rfl
                · cases h
theorem sk_err (r : Bytes) : ∀ (m : Option Nat) (p x : Nat), (∀ st, m = some st → st ≤ p) → sk m p r = .error x → x ≤ p + r.length := by
 induction r with
 | nil =>
  intro m p x hm h
  cases m with
  | none => cases h
  | some st => injection h with h; subst h; have := hm _ rfl; simp; omega
 | cons c t ih =>
  intro m p x hm h
  cases m with
  | none =>
   simp only [sk] at h
   split at h
   · have := ih _ _ _ (by intro st hst; cases hst) h; simp; omega
   · split at h
     · have := ih _ _ _ (by intro st hst; injection hst with hst; omega) h; simp; omega
     · cases h
  | some st =>
   have hst := hm _ rfl
   simp only [sk] at h
   split at h
   · have := ih _ _ _ (by intro st hst; cases hst) h; simp; omega
   · have := ih _ _ _ (by intro st' hst'; injection hst' with hst'; omega) h; simp; omega
theorem nextR_errle (r : Bytes) (p : Nat) (n : Int) (h : nextR r = .error (p, n)) : p ≤ r.length := by
 unfold nextR at h
 split at h
 · rename_i st hs
   cases h
   have := sk_err r none 0 _ (by intro st hst; cases hst) hs
   omega
 · rename_i k hs
   have := (sk_le r none 0 k hs).2
   split at h
   · rename_i q e he
     cases h
     have := tokR_err0 _ _ _ he
     omega
   · cases h
theorem symR_at (r : Bytes) (t : Tok) (n : Nat) (h : symR r = .ok (t, n)) : t.at_ = 0 := by
 unfold symR at h
 split at h
 · cases h; rfl
 · split at h
   · split at h
     · cases h
     · split at h
       · cases h
       · split at h
         · cases h
         · cases h; rfl
   · split at h
     · cases h
     · split at h
       · cases h
       · cases h; rfl
theorem tokR_at (r : Bytes) (t : Tok) (n : Nat) (h : tokR r = .ok (t, n)) : t.at_ = 0 := by
 cases r with
 | nil => cases h; rfl
 | cons c u =>
  have h : tokC c u = .ok (t, n) := h
  unfold tokC at h
  split at h
  · split at h
    · cases h
    · cases h; rfl
  · split at h
    · split at h
      · cases h; rfl
      · cases h
    · split at h
      · split at h
        · cases h
        · cases h; rfl
      · split at h
        · split at h
          · cases h
          · split at h
            · cases h
            · cases h; rfl
        · split at h
          · exact symR_at u t n h
          · split at h
            · split at h <;> (cases h; rfl)
            · split at h
              · cases h; rfl
              · split at h
                · cases h
                · cases h; rfl
/-- Where a token begins: behind blanks and notes. -/
theorem nextR_parts (r : Bytes) (t : Tok) (n : Nat) (h : nextR r = .ok (t, n)) : ∃ k m u, sk none 0 r = .ok k ∧ tokR (r.drop k) = .ok (u, m) ∧ t = { u with at_ := k } ∧ n = k + m ∧ k ≤ r.length := by
 unfold nextR at h
 split at h
 · cases h
 · rename_i k hs
   have hk := (sk_le r none 0 k hs).2
   split at h
   · cases h
   · rename_i u m hu
     injection h with h
     injection h with h1 h2
     refine ⟨k, m, u, hs, hu, ?_, h2.symm, by omega⟩
     rw [← h1, tokR_at _ _ _ hu, Nat.add_zero]
theorem nextR_at (r : Bytes) (t : Tok) (n : Nat) (h : nextR r = .ok (t, n)) : t.at_ ≤ r.length := by
 obtain ⟨k, m, u, _, _, rfl, _, hk⟩ := nextR_parts r t n h
 exact hk
end Lx
end Go.Proofs.YtbdgoimbddlcoaaGreatDoor
namespace Go.Proofs.YtbdgoimbddlcoaaGreatDoor
namespace Lx
def esc : Bytes → Bytes
 | [] => []
 | c :: t => if c = 39 then 39 :: 39 :: esc t else c :: esc t
def quoteL (w : Bytes) : Bytes := 39 :: (esc w ++ [39])
/-- How many arguments a message of this name has; -1: it is none. -/
def arityP (w : Bytes) : Int :=
 if w = [] then -1 else if 64 < w.length then -1 else if kwL w = w.length then (Lib.countByte w 58) else if nameL w = w.length then 0 else if operL w = w.length then 1 else -1
/-- A token as it might be written. -/
def spelledL (k : Int) (w : Bytes) (n : Int) : Bytes :=
 if k = 1 ∨ k = 2 ∨ k = 6 then w
 else if k = 3 then Lib.itoa n
 else if k = 4 then quoteL w
 else if k = 5 then (if arityP w < 0 then 35 :: quoteL w else 35 :: w)
 else if 8 ≤ k ∧ k ≤ 14 then [singleL.getD (k - 8).toNat 0]
 else if k = 7 then [58, 61]
 else if k = 15 then [35, 40]
 else if k = 16 then [58]
 else []
/-- Is this text just this token? -/
def spellB (s : Bytes) (k : Int) (w : Bytes) (n : Int) : Bool :=
 match nextR s with
 | .error _ => false
 | .ok (t, m) => decide ((t.kind : Int) = k) && decide (t.word = w) && decide (t.num = n) && decide (t.at_ = 0) && decide (m = s.length)
theorem txt_esc : ∀ (w q : Bytes), hd q 0 ≠ 39 → txt (esc w ++ 39 :: q) = some (w, (esc w).length + 1)
 | [], q, hq => by
  show txt (39 :: q) = _
  cases q with
  | nil => simp [txt, esc]
  | cons d q =>
   have : d ≠ 39 := hq
   simp [txt, esc, this]
 | c :: w, q, hq => by
  have ih := txt_esc w q hq
  by_cases hc : c = 39
  · subst hc
    have e : esc (39 :: w) = 39 :: 39 :: esc w := by simp [esc]
    rw [e]
    show txt (39 :: 39 :: (esc w ++ 39 :: q)) = _
    rw [txt.eq_def]
    simp only [if_true]
    rw [ih]
    simp
  · have e : esc (c :: w) = c :: esc w := by simp [esc, hc]
    rw [e]
    show txt (c :: (esc w ++ 39 :: q)) = _
    rw [txt.eq_def]
    simp only
    rw [if_neg hc, ih]
    simp
/-! ### cut texts -/
theorem colonB_nil : colonB [] = false := by decide
theorem hd_drop' (r : Bytes) (n i : Nat) : hd (r.drop n) i = hd r (n + i) := by
 unfold hd; rw [List.getD_eq_getElem?_getD, List.getElem?_drop, ← List.getD_eq_getElem?_getD]
/-! ### a token's text -/
theorem tok_of (c : UInt8) (t : Bytes) : tokR (c :: t) = tokC c t := rfl
theorem digs_val (ds : Bytes) (hd' : ds.all digit = true) (hp : Sm.pe ds = 0) : 0 ≤ Sm.pv ds ∧ Sm.pv ds ≤ 4611686018427387903 := by
 have e2 : Sm.pv ds = Sm.num ds := by unfold Sm.pv; rw [if_pos hp]
 have h1 : Sm.num ds ≤ 4611686018427387903 := by
  unfold Sm.pe at hp
  split at hp
  · split at hp
    · rename_i h; exact h.2
    · exact absurd hp (by decide)
  · exact absurd hp (by decide)
 rw [e2]
 refine ⟨?_, h1⟩
 rcases Sm.digs_cases ds with ⟨r, e, _, _⟩ | ⟨_, e⟩
 · rw [e] at hd'; exact absurd (List.all_eq_true.1 hd' 45 List.mem_cons_self) (by decide)
 · unfold Sm.num; rw [e]; simp
set_option maxRecDepth 100000 in
theorem sgl_get {c : UInt8} {i : Nat} (h : sgl c = some i) : i ≤ 6 ∧ [singleL.getD i 0] = [c] ∧ letter c = false ∧ digit c = false ∧ c ≠ 36 ∧ c ≠ 39 ∧ c ≠ 35 ∧ c ≠ 58 := by
 have hh : ∀ n : Fin 256, (match sgl (UInt8.ofNat n.val) with | some i => decide (i ≤ 6) && decide ([singleL.getD i 0] = [UInt8.ofNat n.val]) && !letter (UInt8.ofNat n.val) && !digit (UInt8.ofNat n.val) && decide (UInt8.ofNat n.val ≠ 36) && decide (UInt8.ofNat n.val ≠ 39) && decide (UInt8.ofNat n.val ≠ 35) && decide (UInt8.ofNat n.val ≠ 58) | none => true) = true := by decide
 have := hh ⟨c.toNat, c.toNat_lt⟩
 simp only [UInt8.ofNat_toNat] at this
 rw [h] at this
 simp only [Bool.and_eq_true, decide_eq_true_eq, Bool.not_eq_true'] at this
 obtain ⟨⟨⟨⟨⟨⟨⟨a, b⟩, c1⟩, d⟩, e⟩, f⟩, g⟩, k⟩ := this
 exact ⟨a, b, c1, d, e, f, g, k⟩
theorem quote_tok (w : Bytes) (h : w.length ≤ 4096) : tokR (quoteL w) = .ok (⟨4, w, 0, 0⟩, (quoteL w).length) := by
 have := txt_esc w [] (by decide)
 unfold quoteL
 rw [tok_of]; unfold tokC
 rw [show letter 39 = false by decide, show digit 39 = false by decide, if_neg (by decide), if_neg (by decide), if_neg (by decide), if_pos rfl, this]
 simp only
 rw [if_neg (by omega)]
 simp
theorem arity_ok {w : Bytes} (h : ¬ arityP w < 0) : w ≠ [] ∧ w.length ≤ 64 ∧ (kwL w = w.length ∨ nameL w = w.length ∨ operL w = w.length) := by
 unfold arityP at h
 by_cases h0 : w = []
 · rw [if_pos h0] at h; exact absurd (by decide) h
 · rw [if_neg h0] at h
   by_cases h1 : 64 < w.length
   · rw [if_pos h1] at h; exact absurd (by decide) h
   · rw [if_neg h1] at h
     refine ⟨h0, by omega, ?_⟩
     by_cases h2 : kwL w = w.length
     · exact .inl h2
     · rw [if_neg h2] at h
       by_cases h3 : nameL w = w.length
       · exact .inr (.inl h3)
       · rw [if_neg h3] at h
         by_cases h4 : operL w = w.length
         · exact .inr (.inr h4)
         · rw [if_neg h4] at h; exact absurd (by decide) h
theorem kwL_letter {r : Bytes} (h : letter (hd r 0) = false) : kwL r = 0 := by
 unfold kwL; simp only [kwF]
 have : nameL r = 0 := by unfold nameL; rw [h]; rfl
 rw [if_pos this]
theorem kwL_name {w : Bytes} (h : nameL w = w.length) : kwL w = 0 := by
 unfold kwL; simp only [kwF]
 split
 · rfl
 · rw [h, List.drop_length, colonB_nil]; rfl
set_option maxRecDepth 100000 in
theorem oper_letter {c : UInt8} (h : letter c = true) : c ≠ 124 ∧ opc c = false := by
 have hh : ∀ n : Fin 256, letter (UInt8.ofNat n.val) = true → (UInt8.ofNat n.val ≠ 124 ∧ opc (UInt8.ofNat n.val) = false) := by decide
 have := hh ⟨c.toNat, c.toNat_lt⟩
 simp only [UInt8.ofNat_toNat] at this
 exact this h
theorem sym_len {w : Bytes} (hw : w ≠ []) (h : kwL w = w.length ∨ nameL w = w.length ∨ operL w = w.length) : symL w = w.length ∧ hd w 0 ≠ 40 ∧ hd w 0 ≠ 39 := by
 have hp : 0 < w.length := List.length_pos_iff.2 hw
 cases hl : letter (hd w 0)
 · have h1 : kwL w = 0 := kwL_letter hl
   have h2 : nameL w = 0 := by unfold nameL; rw [hl]; rfl
   have h3 : operL w = w.length := by rcases h with h | h | h <;> omega
   refine ⟨by unfold symL; rw [hl]; exact h3, ?_, ?_⟩ <;> intro e
   · have : operL w = 0 := by unfold operL; rw [e, if_neg (by decide), if_neg (by decide)]
     omega
   · have : operL w = 0 := by unfold operL; rw [e, if_neg (by decide), if_neg (by decide)]
     omega
 · obtain ⟨o1, o2⟩ := oper_letter hl
   have h3 : operL w = 0 := by unfold operL; rw [if_neg o1, o2]; rfl
   refine ⟨?_, by intro e; rw [e] at hl; exact absurd hl (by decide), by intro e; rw [e] at hl; exact absurd hl (by decide)⟩
   unfold symL; rw [if_pos hl]
   by_cases hk : kwL w = 0
   · rw [if_pos hk]; rcases h with h | h | h <;> omega
   · rw [if_neg hk]
     rcases h with h | h | h
     · exact h
     · exact absurd (kwL_name h) hk
     · omega
theorem hash_tok (w : Bytes) (h : w.length ≤ 64) : tokR (if arityP w < 0 then 35 :: quoteL w else 35 :: w) = .ok (⟨5, w, 0, 0⟩, (if arityP w < 0 then 35 :: quoteL w else 35 :: w).length) := by
 by_cases ha : arityP w < 0
 · rw [if_pos ha]
   have hx := txt_esc w [] (by decide)
   have : tokR (35 :: quoteL w) = symR (quoteL w) := rfl
   rw [this]
   unfold symR quoteL
   rw [show hd (39 :: (esc w ++ [39])) 0 = 39 from rfl, if_neg (by decide), if_pos rfl, List.drop_succ_cons, List.drop_zero, hx]
   simp only
   rw [if_neg (by omega), if_neg (by omega)]
   simp
 · rw [if_neg ha]
   obtain ⟨h0, h1, h2⟩ := arity_ok ha
   obtain ⟨h3, h4, h5⟩ := sym_len h0 h2
   have : tokR (35 :: w) = symR w := rfl
   rw [this]
   unfold symR
   have hp : 0 < w.length := List.length_pos_iff.2 h0
   rw [if_neg h4, if_neg h5, h3, if_neg (by omega), if_neg (by omega), List.take_length]
   simp
/-- Where a token is plain, its text is how it stood. -/
def plainK (k : Int) : Prop := k ≠ 3 ∧ k ≠ 5
theorem sp4 (w : Bytes) (n : Int) : spelledL 4 w n = quoteL w := by unfold spelledL; rw [if_neg (by decide), if_neg (by decide), if_pos rfl]
theorem sp5 (w : Bytes) (n : Int) : spelledL 5 w n = if arityP w < 0 then 35 :: quoteL w else 35 :: w := by unfold spelledL; rw [if_neg (by decide), if_neg (by decide), if_neg (by decide), if_pos rfl]
end Lx
end Go.Proofs.YtbdgoimbddlcoaaGreatDoor
namespace Go.Proofs.YtbdgoimbddlcoaaGreatDoor
namespace Lx
theorem idx_pos (c : UInt8) : ∀ (l : Bytes), Lib.indexByte l c = -1 ∨ 0 ≤ Lib.indexByte l c := index_none' c
where index_none' (c : UInt8) : ∀ (l : Bytes), Lib.indexByte l c = -1 ∨ 0 ≤ Lib.indexByte l c
 | [] => .inl rfl
 | b :: l => by
  simp only [Lib.indexByte]
  split
  · right; omega
  · split
    · left; rfl
    · rename_i h1 h2
      rcases index_none' c l with h | h
      · rw [h] at h2; exact absurd rfl h2
      · right; omega
theorem rep_esc : ∀ (s : Bytes) (k : Nat), s.count 39 ≤ k → Lib.replaceK [39] [39, 39] k s = esc s
 | [], 0, _ => rfl
 | [], k + 1, _ => by unfold Lib.replaceK; rw [Lib.index_one]; rfl
 | c :: t, 0, h => by
  have hc : c ≠ 39 := by intro e; subst e; simp at h
  have ih := rep_esc t 0 (by rw [List.count_cons_of_ne hc] at h; exact h)
  unfold Lib.replaceK at ih ⊢
  simp only [esc]; rw [if_neg hc, ← ih]
 | c :: t, k + 1, h => by
  by_cases hc : c = 39
  · subst hc
    have ih := rep_esc t k (by rw [List.count_cons_self] at h; omega)
    have hi : Lib.index (39 :: t) [39] = (0 : Nat) := by rw [Lib.index_one]; rfl
    rw [Lib.replaceK_hit _ _ _ _ 0 hi]
    simp only [List.take_zero, List.nil_append, List.length_singleton, Nat.zero_add, List.drop_succ_cons, List.drop_zero]
    rw [ih]; simp [esc]
  · have hcount : t.count 39 ≤ k + 1 := by rw [List.count_cons_of_ne hc] at h; exact h
    have ih := rep_esc t (k + 1) hcount
    have hb : (c == 39) = false := by simpa using hc
    have hix : Lib.indexByte (c :: t) 39 = if Lib.indexByte t 39 == -1 then -1 else Lib.indexByte t 39 + 1 := by
     simp only [Lib.indexByte, hb]; rfl
    simp only [esc]; rw [if_neg hc, ← ih]
    rcases idx_pos 39 t with h1 | h1
    · have h2 : Lib.indexByte (c :: t) 39 = -1 := by rw [hix, h1]; rfl
      unfold Lib.replaceK
      rw [Lib.index_one, Lib.index_one, h1, h2]; rfl
    · obtain ⟨i, hi⟩ : ∃ i : Nat, Lib.indexByte t 39 = i := ⟨_, (Int.toNat_of_nonneg h1).symm⟩
      have h2 : Lib.indexByte (c :: t) 39 = ((i + 1 : Nat) : Int) := by
       rw [hix, hi, if_neg (by simp)]; rfl
      rw [Lib.replaceK_hit _ _ _ t i (by rw [Lib.index_one]; exact hi), Lib.replaceK_hit _ _ _ (c :: t) (i + 1) (by rw [Lib.index_one]; exact h2)]
      simp only [List.length_singleton, List.take_succ_cons, List.cons_append]
      congr 3
theorem replace_esc (w : Bytes) : Lib.replaceAll w [39] [39, 39] = esc w := by
 unfold Lib.replaceAll Lib.replace
 rw [if_neg (by decide)]
 have : Lib.replaceNum w [39] (-1) = w.count 39 := by
  unfold Lib.replaceNum; rw [if_pos (Or.inl (by decide)), Lib.count_one]
 rw [this]
 exact rep_esc w _ (Nat.le_refl _)
theorem esc_len (w : Bytes) : (esc w).length = w.length + w.count 39 := by
 induction w with
 | nil => rfl
 | cons c t ih =>
  simp only [esc]
  by_cases hc : c = 39
  · subst hc; rw [if_pos rfl, List.count_cons_self]; simp; omega
  · rw [if_neg hc, List.count_cons_of_ne hc]; simp; omega
end Lx
end Go.Proofs.YtbdgoimbddlcoaaGreatDoor
namespace Go.Proofs.YtbdgoimbddlcoaaGreatDoor
namespace Lx
set_option maxRecDepth 100000 in
theorem sep_facts (c : UInt8) (h : blank c = true ∨ c = 34) : letter c = false ∧ digit c = false ∧ c ≠ 36 ∧ c ≠ 39 ∧ c ≠ 35 ∧ c ≠ 58 ∧ sgl c = none ∧ c ≠ 124 ∧ opc c = false := by
 have hh : ∀ n : Fin 256, (!(blank (UInt8.ofNat n.val) || decide (UInt8.ofNat n.val = 34)) || (!letter (UInt8.ofNat n.val) && !digit (UInt8.ofNat n.val) && decide (UInt8.ofNat n.val ≠ 36) && decide (UInt8.ofNat n.val ≠ 39) && decide (UInt8.ofNat n.val ≠ 35) && decide (UInt8.ofNat n.val ≠ 58) && decide (sgl (UInt8.ofNat n.val) = none) && decide (UInt8.ofNat n.val ≠ 124) && !opc (UInt8.ofNat n.val))) = true := by decide
 have := hh ⟨c.toNat, c.toNat_lt⟩
 simp only [UInt8.ofNat_toNat] at this
 have hb : (blank c || decide (c = 34)) = true := by rcases h with h | h <;> simp [h]
 rw [hb] at this
 simp only [Bool.not_true, Bool.false_or, Bool.and_eq_true, decide_eq_true_eq, Bool.not_eq_true'] at this
 obtain ⟨⟨⟨⟨⟨⟨⟨⟨a, b⟩, c1⟩, d⟩, e⟩, f⟩, g⟩, i⟩, j⟩ := this
 exact ⟨a, b, c1, d, e, f, g, i, j⟩
theorem tok_sep (c : UInt8) (t : Bytes) (h : blank c = true ∨ c = 34) : tokR (c :: t) = .error (0, 3) := by
 obtain ⟨a, b, c1, d, e, f, g, i, j⟩ := sep_facts c h
 rw [tok_of]; unfold tokC
 have ho : operL (c :: t) = 0 := by
  unfold operL
  rw [if_neg (show ¬ hd (c :: t) 0 = 124 from i), show opc (hd (c :: t) 0) = false from j]; rfl
 rw [a, b, if_neg (by decide), if_neg (by decide), if_neg c1, if_neg d, if_neg e, if_neg f, g]
 simp only
 rw [if_pos ho]
theorem sk_tok (s : Bytes) (u : Tok) (n : Nat) (h : tokR s = .ok (u, n)) : sk none 0 s = .ok 0 := by
 cases s with
 | nil => rfl
 | cons c t =>
  simp only [sk]
  by_cases hb : blank c = true
  · rw [tok_sep c t (.inl hb)] at h; cases h
  · rw [if_neg hb]
    by_cases h34 : c = 34
    · rw [tok_sep c t (.inr h34)] at h; cases h
    · rw [if_neg h34]
theorem next_tokR (s : Bytes) (u : Tok) (n : Nat) (h : tokR s = .ok (u, n)) : nextR s = .ok (u, n) := by
 unfold nextR
 rw [sk_tok s u n h]
 simp only
 rw [List.drop_zero, h]
 simp only [Nat.zero_add]
def sp (t : Tok) : Bytes := spelledL (t.kind : Int) t.word t.num
instance (k : Int) : Decidable (plainK k) := inferInstanceAs (Decidable (k ≠ 3 ∧ k ≠ 5))
theorem spell_ok (u : Tok) (hu : u.at_ = 0) (h : tokR (sp u) = .ok (u, (sp u).length)) : spellB (sp u) (u.kind : Int) u.word u.num = true := by
 unfold spellB
 rw [next_tokR _ _ _ h]
 simp [hu]
/-- What a token's parts are at most. -/
def Small (t : Tok) : Prop := t.kind ≤ 16 ∧ 0 ≤ t.num ∧ t.num ≤ 4611686018427387903 ∧ t.word.length ≤ 4096
theorem symR_in (r : Bytes) (t : Tok) (n : Nat) (h : symR r = .ok (t, n)) : Small t := by
 unfold symR at h
 split at h
 · cases h; exact ⟨by decide, by decide, by decide, by decide⟩
 · split at h
   · split at h
     · cases h
     · split at h
       · cases h
       · split at h
         · cases h
         · rename_i h1 h2; cases h; exact ⟨by simp only; omega, by simp only; omega, by simp only; omega, by simp only; omega⟩
   · split at h
     · cases h
     · split at h
       · cases h
       · rename_i h1 h2; cases h; exact ⟨by simp only; omega, by simp only; omega, by simp only; omega, by simp only [List.length_take]; omega⟩
theorem tokR_in (r : Bytes) (t : Tok) (n : Nat) (h : tokR r = .ok (t, n)) : Small t := by
 cases r with
 | nil => cases h; exact ⟨by decide, by decide, by decide, by decide⟩
 | cons c u =>
  have h : tokC c u = .ok (t, n) := h
  unfold tokC at h
  split at h
  · split at h
    · cases h
    · rename_i h1 h2; cases h; exact ⟨by simp only; split <;> omega, by simp only; omega, by simp only; omega, by simp only [List.length_take]; omega⟩
  · split at h
    · split at h
      · rename_i h3
        cases h
        have := digs_val _ (List.all_takeWhile (p := digit) (l := c :: u)) h3
        exact ⟨by simp only; omega, this.1, this.2, by simp⟩
      · cases h
    · split at h
      · split at h
        · cases h
        · cases h
          have := (hd u 0).toNat_lt
          exact ⟨by simp only; omega, by simp only; omega, by simp only; omega, by simp⟩
      · split at h
        · split at h
          · cases h
          · split at h
            · cases h
            · rename_i h1 h2; cases h; exact ⟨by simp only; omega, by simp only; omega, by simp only; omega, by simp only; omega⟩
        · split at h
          · exact symR_in u t n h
          · split at h
            · split at h <;> (cases h; exact ⟨by simp only; omega, by simp only; omega, by simp only; omega, by simp⟩)
            · split at h
              · rename_i i hs; cases h; have := (sgl_get hs).1; exact ⟨by simp only; omega, by simp only; omega, by simp only; omega, by simp⟩
              · split at h
                · cases h
                · cases h
                  have h2 : operL (c :: u) ≤ 2 := by unfold operL; split <;> (try split) <;> (try split) <;> omega
                  exact ⟨by simp only; omega, by simp only; omega, by simp only; omega, by simp only [List.length_take]; omega⟩
end Lx
end Go.Proofs.YtbdgoimbddlcoaaGreatDoor
