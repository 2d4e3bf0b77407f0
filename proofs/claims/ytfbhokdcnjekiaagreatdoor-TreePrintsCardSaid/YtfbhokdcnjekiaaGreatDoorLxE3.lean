/- Tokens in a row, read. · Where the lexer's errors stand. No program. · A token spelled, and read back. No program. · Quotes doubled: what the library's ReplaceAll does. No program. · Where the tokens of a text stand, and that each is spelled. No program. -/
import Derived.Test.YtfbhokdcnjekiaaGreatDoorLxWb
import Derived.Test.YtfbhokdcnjekiaaGreatDoorLxNa
import Derived.Test.YtfbhokdcnjekiaaGreatDoorLxP0
import Derived.Lib.Bytealg
import Derived.Lib.Replace
import Derived.Lib.IndexBytes
set_option linter.unusedVariables false
namespace Go.Proofs.YtfbhokdcnjekiaaGreatDoor
namespace Lx
end Lx
end Go.Proofs.YtfbhokdcnjekiaaGreatDoor
namespace Go.Proofs.YtfbhokdcnjekiaaGreatDoor
namespace Lx
def esc : Bytes → Bytes
 | [] => []
 | c :: t => if c = 39 then 39 :: 39 :: esc t else c :: esc t
def quoteL (w : Bytes) : Bytes := 39 :: (esc w ++ [39])
/-- How many arguments a message of this name has; -1: it is none. -/
def arityP (w : Bytes) : Int :=
 if w = [] then -1 else if 64 < w.length then -1 else if kwL w = w.length then (Lib.countByte w 58) else if nameL w = w.length then 0 else if operL w = w.length then 1 else -1
/-- A token as it might be written. -/
def spelledL (k : Int) (w : Bytes) (n : Int) : Bytes :=
 if k = 1 ∨ k = 2 ∨ k = 6 then w
 else if k = 3 then Lib.itoa n
 else if k = 4 then quoteL w
 else if k = 5 then (if arityP w < 0 then 35 :: quoteL w else 35 :: w)
 else if 8 ≤ k ∧ k ≤ 14 then [singleL.getD (k - 8).toNat 0]
 else if k = 7 then [58, 61]
 else if k = 15 then [35, 40]
 else if k = 16 then [58]
 else []
/-- Is this text just this token? -/
def spellB (s : Bytes) (k : Int) (w : Bytes) (n : Int) : Bool :=
 match nextR s with
 | .error _ => false
 | .ok (t, m) => decide ((t.kind : Int) = k) && decide (t.word = w) && decide (t.num = n) && decide (t.at_ = 0) && decide (m = s.length)
theorem txt_esc : ∀ (w q : Bytes), hd q 0 ≠ 39 → txt (esc w ++ 39 :: q) = some (w, (esc w).length + 1)
 | [], q, hq => by
  show txt (39 :: q) = _
  cases q with
  | nil => simp [txt, esc]
  | cons d q =>
   have : d ≠ 39 := hq
   simp [txt, esc, this]
 | c :: w, q, hq => by
  have ih := txt_esc w q hq
  by_cases hc : c = 39
  · subst hc
    have e : esc (39 :: w) = 39 :: 39 :: esc w := by simp [esc]
    rw [e]
    show txt (39 :: 39 :: (esc w ++ 39 :: q)) = _
    rw [txt.eq_def]
    simp only [if_true]
    rw [ih]
    simp
  · have e : esc (c :: w) = c :: esc w := by simp [esc, hc]
    rw [e]
    show txt (c :: (esc w ++ 39 :: q)) = _
    rw [txt.eq_def]
    simp only
    rw [if_neg hc, ih]
    simp
theorem txt_cut : ∀ (t w : Bytes) (m : Nat), txt t = some (w, m) → t.take m = esc w ++ [39]
 | [], w, m, h => by simp [txt] at h
 | [c], w, m, h => by
  simp only [txt] at h
  split at h
  · rename_i hc; subst hc; cases h; rfl
  · simp at h
 | c :: d :: t, w, m, h => by
  rw [txt.eq_def] at h
  simp only at h
  split at h
  · rename_i hc
    split at h
    · rename_i hd'
      obtain ⟨y, hy, hx⟩ := Option.map_eq_some_iff.1 h
      obtain ⟨y1, y2⟩ := y
      have ih := txt_cut t y1 y2 hy
      injection hx with h1 h2
      subst h1; subst h2; subst hc; subst hd'
      simp only
      rw [List.take_succ_cons, List.take_succ_cons, ih]
      simp [esc]
    · cases h; subst hc; rfl
  · rename_i hc
    obtain ⟨y, hy, hx⟩ := Option.map_eq_some_iff.1 h
    obtain ⟨y1, y2⟩ := y
    have ih := txt_cut (d :: t) y1 y2 hy
    injection hx with h1 h2
    subst h1; subst h2
    simp only
    rw [List.take_succ_cons, ih]
    simp [esc, hc]
/-! ### cut texts -/
theorem colonB_nil : colonB [] = false := by decide
theorem hd_drop' (r : Bytes) (n i : Nat) : hd (r.drop n) i = hd r (n + i) := by
 unfold hd; rw [List.getD_eq_getElem?_getD, List.getElem?_drop, ← List.getD_eq_getElem?_getD]
/-! ### a token's text -/
theorem tok_of (c : UInt8) (t : Bytes) : tokR (c :: t) = tokC c t := rfl
theorem quote_tok (w : Bytes) (h : w.length ≤ 4096) : tokR (quoteL w) = .ok (⟨4, w, 0, 0⟩, (quoteL w).length) := by
 have := txt_esc w [] (by decide)
 unfold quoteL
 rw [tok_of]; unfold tokC
 rw [show letter 39 = false by decide, show digit 39 = false by decide, if_neg (by decide), if_neg (by decide), if_neg (by decide), if_pos rfl, this]
 simp only
 rw [if_neg (by omega)]
 simp
theorem arity_ok {w : Bytes} (h : ¬ arityP w < 0) : w ≠ [] ∧ w.length ≤ 64 ∧ (kwL w = w.length ∨ nameL w = w.length ∨ operL w = w.length) := by
 unfold arityP at h
 by_cases h0 : w = []
 · rw [if_pos h0] at h; exact absurd (by decide) h
 · rw [if_neg h0] at h
   by_cases h1 : 64 < w.length
   · rw [if_pos h1] at h; exact absurd (by decide) h
   · rw [if_neg h1] at h
     refine ⟨h0, by omega, ?_⟩
     by_cases h2 : kwL w = w.length
     · exact .inl h2
     · rw [if_neg h2] at h
       by_cases h3 : nameL w = w.length
       · exact .inr (.inl h3)
       · rw [if_neg h3] at h
         by_cases h4 : operL w = w.length
         · exact .inr (.inr h4)
         · rw [if_neg h4] at h; exact absurd (by decide) h
theorem kwL_letter {r : Bytes} (h : letter (hd r 0) = false) : kwL r = 0 := by
 unfold kwL; simp only [kwF]
 have : nameL r = 0 := by unfold nameL; rw [h]; rfl
 rw [if_pos this]
theorem kwL_name {w : Bytes} (h : nameL w = w.length) : kwL w = 0 := by
 unfold kwL; simp only [kwF]
 split
 · rfl
 · rw [h, List.drop_length, colonB_nil]; rfl
set_option maxRecDepth 100000 in
theorem oper_letter {c : UInt8} (h : letter c = true) : c ≠ 124 ∧ opc c = false := by
 have hh : ∀ n : Fin 256, letter (UInt8.ofNat n.val) = true → (UInt8.ofNat n.val ≠ 124 ∧ opc (UInt8.ofNat n.val) = false) := by decide
 have := hh ⟨c.toNat, c.toNat_lt⟩
 simp only [UInt8.ofNat_toNat] at this
 exact this h
theorem sym_len {w : Bytes} (hw : w ≠ []) (h : kwL w = w.length ∨ nameL w = w.length ∨ operL w = w.length) : symL w = w.length ∧ hd w 0 ≠ 40 ∧ hd w 0 ≠ 39 := by
 have hp : 0 < w.length := List.length_pos_iff.2 hw
 cases hl : letter (hd w 0)
 · have h1 : kwL w = 0 := kwL_letter hl
   have h2 : nameL w = 0 := by unfold nameL; rw [hl]; rfl
   have h3 : operL w = w.length := by rcases h with h | h | h <;> omega
   refine ⟨by unfold symL; rw [hl]; exact h3, ?_, ?_⟩ <;> intro e
   · have : operL w = 0 := by unfold operL; rw [e, if_neg (by decide), if_neg (by decide)]
     omega
   · have : operL w = 0 := by unfold operL; rw [e, if_neg (by decide), if_neg (by decide)]
     omega
 · obtain ⟨o1, o2⟩ := oper_letter hl
   have h3 : operL w = 0 := by unfold operL; rw [if_neg o1, o2]; rfl
   refine ⟨?_, by intro e; rw [e] at hl; exact absurd hl (by decide), by intro e; rw [e] at hl; exact absurd hl (by decide)⟩
   unfold symL; rw [if_pos hl]
   by_cases hk : kwL w = 0
   · rw [if_pos hk]; rcases h with h | h | h <;> omega
   · rw [if_neg hk]
     rcases h with h | h | h
     · exact h
     · exact absurd (kwL_name h) hk
     · omega
theorem hash_tok (w : Bytes) (h : w.length ≤ 64) : tokR (if arityP w < 0 then 35 :: quoteL w else 35 :: w) = .ok (⟨5, w, 0, 0⟩, (if arityP w < 0 then 35 :: quoteL w else 35 :: w).length) := by
 by_cases ha : arityP w < 0
 · rw [if_pos ha]
   have hx := txt_esc w [] (by decide)
   have : tokR (35 :: quoteL w) = symR (quoteL w) := rfl
   rw [this]
   unfold symR quoteL
   rw [show hd (39 :: (esc w ++ [39])) 0 = 39 from rfl, if_neg (by decide), if_pos rfl, List.drop_succ_cons, List.drop_zero, hx]
   simp only
   rw [if_neg (by omega), if_neg (by omega)]
   simp
 · rw [if_neg ha]
   obtain ⟨h0, h1, h2⟩ := arity_ok ha
   obtain ⟨h3, h4, h5⟩ := sym_len h0 h2
   have : tokR (35 :: w) = symR w := rfl
   rw [this]
   unfold symR
   have hp : 0 < w.length := List.length_pos_iff.2 h0
   rw [if_neg h4, if_neg h5, h3, if_neg (by omega), if_neg (by omega), List.take_length]
   simp
/-- Where a token is plain, its text is how it stood. -/
def plainK (k : Int) : Prop := k ≠ 3 ∧ k ≠ 5
theorem sp4 (w : Bytes) (n : Int) : spelledL 4 w n = quoteL w := by unfold spelledL; rw [if_neg (by decide), if_neg (by decide), if_pos rfl]
theorem sp5 (w : Bytes) (n : Int) : spelledL 5 w n = if arityP w < 0 then 35 :: quoteL w else 35 :: w := by unfold spelledL; rw [if_neg (by decide), if_neg (by decide), if_neg (by decide), if_pos rfl]
end Lx
end Go.Proofs.YtfbhokdcnjekiaaGreatDoor
namespace Go.Proofs.YtfbhokdcnjekiaaGreatDoor
namespace Lx
theorem idx_pos (c : UInt8) : ∀ (l : Bytes), Lib.indexByte l c = -1 ∨ 0 ≤ Lib.indexByte l c := index_none' c
where index_none' (c : UInt8) : ∀ (l : Bytes), Lib.indexByte l c = -1 ∨ 0 ≤ Lib.indexByte l c
 | [] => .inl rfl
 | b :: l => by
  simp only [Lib.indexByte]
  split
  · right; omega
  · split
    · left; rfl
    · rename_i h1 h2
      rcases index_none' c l with h | h
      · rw [h] at h2; exact absurd rfl h2
      · right; omega
theorem rep_esc : ∀ (s : Bytes) (k : Nat), s.count 39 ≤ k → Lib.replaceK [39] [39, 39] k s = esc s
 | [], 0, _ => rfl
 | [], k + 1, _ => by unfold Lib.replaceK; rw [Lib.index_one]; rfl
 | c :: t, 0, h => by
  have hc : c ≠ 39 := by intro e; subst e; simp at h
  have ih := rep_esc t 0 (by rw [List.count_cons_of_ne hc] at h; exact h)
  unfold Lib.replaceK at ih ⊢
  simp only [esc]; rw [if_neg hc, ← ih]
 | c :: t, k + 1, h => by
  by_cases hc : c = 39
  · subst hc
    have ih := rep_esc t k (by rw [List.count_cons_self] at h; omega)
    have hi : Lib.index (39 :: t) [39] = (0 : Nat) := by rw [Lib.index_one]; rfl
    rw [Lib.replaceK_hit _ _ _ _ 0 hi]
    simp only [List.take_zero, List.nil_append, List.length_singleton, Nat.zero_add, List.drop_succ_cons, List.drop_zero]
    rw [ih]; simp [esc]
  · have hcount : t.count 39 ≤ k + 1 := by rw [List.count_cons_of_ne hc] at h; exact h
    have ih := rep_esc t (k + 1) hcount
    have hb : (c == 39) = false := by simpa using hc
    have hix : Lib.indexByte (c :: t) 39 = if Lib.indexByte t 39 == -1 then -1 else Lib.indexByte t 39 + 1 := by
     simp only [Lib.indexByte, hb]; rfl
    simp only [esc]; rw [if_neg hc, ← ih]
    rcases idx_pos 39 t with h1 | h1
    · have h2 : Lib.indexByte (c :: t) 39 = -1 := by rw [hix, h1]; rfl
      unfold Lib.replaceK
      rw [Lib.index_one, Lib.index_one, h1, h2]; rfl
    · obtain ⟨i, hi⟩ : ∃ i : Nat, Lib.indexByte t 39 = i := ⟨_, (Int.toNat_of_nonneg h1).symm⟩
      have h2 : Lib.indexByte (c :: t) 39 = ((i + 1 : Nat) : Int) := by
       rw [hix, hi, if_neg (by simp)]; rfl
      rw [Lib.replaceK_hit _ _ _ t i (by rw [Lib.index_one]; exact hi), Lib.replaceK_hit _ _ _ (c :: t) (i + 1) (by rw [Lib.index_one]; exact h2)]
      simp only [List.length_singleton, List.take_succ_cons, List.cons_append]
      congr 3
theorem replace_esc (w : Bytes) : Lib.replaceAll w [39] [39, 39] = esc w := by
 unfold Lib.replaceAll Lib.replace
 rw [if_neg (by decide)]
 have : Lib.replaceNum w [39] (-1) = w.count 39 := by
  unfold Lib.replaceNum; rw [if_pos (Or.inl (by decide)), Lib.count_one]
 rw [this]
 exact rep_esc w _ (Nat.le_refl _)
theorem esc_len (w : Bytes) : (esc w).length = w.length + w.count 39 := by
 induction w with
 | nil => rfl
 | cons c t ih =>
  simp only [esc]
  by_cases hc : c = 39
  · subst hc; rw [if_pos rfl, List.count_cons_self]; simp; omega
  · rw [if_neg hc, List.count_cons_of_ne hc]; simp; omega
end Lx
end Go.Proofs.YtfbhokdcnjekiaaGreatDoor
namespace Go.Proofs.YtfbhokdcnjekiaaGreatDoor
namespace Lx
set_option maxRecDepth 100000 in
theorem sep_facts (c : UInt8) (h : blank c = true ∨ c = 34) : letter c = false ∧ digit c = false ∧ c ≠ 36 ∧ c ≠ 39 ∧ c ≠ 35 ∧ c ≠ 58 ∧ sgl c = none ∧ c ≠ 124 ∧ opc c = false := by
 have hh : ∀ n : Fin 256, (!(blank (UInt8.ofNat n.val) || decide (UInt8.ofNat n.val = 34)) || (!letter (UInt8.ofNat n.val) && !digit (UInt8.ofNat n.val) && decide (UInt8.ofNat n.val ≠ 36) && decide (UInt8.ofNat n.val ≠ 39) && decide (UInt8.ofNat n.val ≠ 35) && decide (UInt8.ofNat n.val ≠ 58) && decide (sgl (UInt8.ofNat n.val) = none) && decide (UInt8.ofNat n.val ≠ 124) && !opc (UInt8.ofNat n.val))) = true := by decide
 have := hh ⟨c.toNat, c.toNat_lt⟩
 simp only [UInt8.ofNat_toNat] at this
 have hb : (blank c || decide (c = 34)) = true := by rcases h with h | h <;> simp [h]
 rw [hb] at this
 simp only [Bool.not_true, Bool.false_or, Bool.and_eq_true, decide_eq_true_eq, Bool.not_eq_true'] at this
 obtain ⟨⟨⟨⟨⟨⟨⟨⟨a, b⟩, c1⟩, d⟩, e⟩, f⟩, g⟩, i⟩, j⟩ := this
 exact ⟨a, b, c1, d, e, f, g, i, j⟩
theorem tok_sep (c : UInt8) (t : Bytes) (h : blank c = true ∨ c = 34) : tokR (c :: t) = .error (0, 3) := by
 obtain ⟨a, b, c1, d, e, f, g, i, j⟩ := sep_facts c h
 rw [tok_of]; unfold tokC
 have ho : operL (c :: t) = 0 := by
  unfold operL
  rw [if_neg (show ¬ hd (c :: t) 0 = 124 from i), show opc (hd (c :: t) 0) = false from j]; rfl
 rw [a, b, if_neg (by decide), if_neg (by decide), if_neg c1, if_neg d, if_neg e, if_neg f, g]
 simp only
 rw [if_pos ho]
theorem sk_tok (s : Bytes) (u : Tok) (n : Nat) (h : tokR s = .ok (u, n)) : sk none 0 s = .ok 0 := by
 cases s with
 | nil => rfl
 | cons c t =>
  simp only [sk]
  by_cases hb : blank c = true
  · rw [tok_sep c t (.inl hb)] at h; cases h
  · rw [if_neg hb]
    by_cases h34 : c = 34
    · rw [tok_sep c t (.inr h34)] at h; cases h
    · rw [if_neg h34]
theorem next_tokR (s : Bytes) (u : Tok) (n : Nat) (h : tokR s = .ok (u, n)) : nextR s = .ok (u, n) := by
 unfold nextR
 rw [sk_tok s u n h]
 simp only
 rw [List.drop_zero, h]
 simp only [Nat.zero_add]
def sp (t : Tok) : Bytes := spelledL (t.kind : Int) t.word t.num
instance (k : Int) : Decidable (plainK k) := inferInstanceAs (Decidable (k ≠ 3 ∧ k ≠ 5))
theorem spell_ok (u : Tok) (hu : u.at_ = 0) (h : tokR (sp u) = .ok (u, (sp u).length)) : spellB (sp u) (u.kind : Int) u.word u.num = true := by
 unfold spellB
 rw [next_tokR _ _ _ h]
 simp [hu]
end Lx
end Go.Proofs.YtfbhokdcnjekiaaGreatDoor
