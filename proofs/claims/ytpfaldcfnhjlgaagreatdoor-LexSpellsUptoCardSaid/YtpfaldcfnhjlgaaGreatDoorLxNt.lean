/- Tokens written with blanks and notes between, read again. No program. -/
import Derived.Test.YtpfaldcfnhjlgaaGreatDoorLxSpq
set_option linter.unusedVariables false
set_option linter.unusedSectionVars false
namespace Go.Proofs.YtpfaldcfnhjlgaaGreatDoor
namespace Lx
/-- A byte that ends whatever stands ahead of it: a blank, a note's mark. -/
def Sep (c : UInt8) : Prop := c = 32 ∨ c = 34
theorem sep_hd {P : UInt8 → Prop} (h1 : P 32) (h2 : P 34) {c : UInt8} (h : Sep c) : P c := by rcases h with rfl | rfl <;> assumption
section
variable {c : UInt8} (hc : Sep c)
include hc
theorem twS (p : UInt8 → Bool) (r q : Bytes) (h1 : p 32 = false) (h2 : p 34 = false) : (r ++ c :: q).takeWhile p = r.takeWhile p := by
  have hp : p c = false := by rcases hc with rfl | rfl <;> assumption
  induction r with
  | nil => simp [hp]
  | cons d t ih => simp only [List.cons_append, List.takeWhile_cons]; split
                   · rw [ih]
                   · rfl
theorem hdS (r q : Bytes) (n : Nat) : hd (r ++ c :: q) n = if n < r.length then hd r n else if n = r.length then c else hd q (n - r.length - 1) := by
  unfold hd
  split
  · rename_i h; rw [List.getD_eq_getElem?_getD, List.getElem?_append_left h, ← List.getD_eq_getElem?_getD]
  · rename_i h
    rw [List.getD_eq_getElem?_getD, List.getElem?_append_right (by omega), ← List.getD_eq_getElem?_getD]
    split
    · rename_i h2; rw [h2, Nat.sub_self]; rfl
    · rename_i h2
      obtain ⟨m, hm⟩ : ∃ m, n - r.length = m + 1 := ⟨n - r.length - 1, by omega⟩
      rw [hm, List.getD_cons_succ, Nat.add_sub_cancel]
theorem testS {α : Type} (f : UInt8 → α) (h1 : f 0 = f 32) (h2 : f 0 = f 34) (r q : Bytes) (n : Nat) (hn : n ≤ r.length) : f (hd (r ++ c :: q) n) = f (hd r n) := by
  rw [hdS hc]
  split
  · rfl
  · rename_i h
    rw [if_pos (by omega), hd_out r n (by omega)]
    rcases hc with rfl | rfl
    · exact h1.symm
    · exact h2.symm
theorem nameS (r q : Bytes) : nameL (r ++ c :: q) = nameL r := by
  unfold nameL
  rw [testS hc letter (by decide) (by decide) r q 0 (Nat.zero_le _), twS hc alnum r q (by decide) (by decide)]
theorem colonS (r q : Bytes) : colonB (r ++ c :: q) = colonB r := by
  unfold colonB
  have h : (hd (r ++ c :: q) 0 == 58) = (hd r 0 == 58) := testS hc (fun c => c == 58) (by decide) (by decide) r q 0 (Nat.zero_le _)
  rw [h]
  cases hx : (hd r 0 == 58)
  · rfl
  · have hr : 1 ≤ r.length := by
      cases r with
      | nil => exact absurd hx (by decide)
      | cons => simp
    have h2 : (hd (r ++ c :: q) 1 != 61) = (hd r 1 != 61) := testS hc (fun c => c != 61) (by decide) (by decide) r q 1 hr
    rw [h2]
theorem dropS (r q : Bytes) (n : Nat) (h : n ≤ r.length) : (r ++ c :: q).drop n = r.drop n ++ c :: q := List.drop_append_of_le_length h
theorem takeS (r q : Bytes) (n : Nat) (h : n ≤ r.length) : (r ++ c :: q).take n = r.take n := List.take_append_of_le_length h
theorem kwFS (q : Bytes) : ∀ (f g : Nat) (r : Bytes), r.length < f → r.length < g → kwF f (r ++ c :: q) = kwF g r := by
  intro f
  induction f with
  | zero => intro g r h; omega
  | succ f ih =>
    intro g r hf hg
    cases g with
    | zero => omega
    | succ g =>
      simp only [kwF]
      rw [nameS hc]
      split
      · rfl
      · rename_i hn
        have hl := nameL_le r
        rw [dropS hc r q _ hl, colonS hc]
        split
        · rename_i hx
          have := colon_pos _ hx
          rw [List.length_drop] at this
          rw [dropS hc r q _ (by omega), ih g (r.drop (nameL r + 1)) (by rw [List.length_drop]; omega) (by rw [List.length_drop]; omega)]
        · rfl
theorem kwS (r q : Bytes) : kwL (r ++ c :: q) = kwL r := by
  unfold kwL
  exact kwFS hc q _ _ r (by simp; omega) (by omega)
theorem operS (r q : Bytes) : operL (r ++ c :: q) = operL r := by
  unfold operL
  have h1 := testS hc opc (by decide) (by decide) r q 0 (Nat.zero_le _)
  have e : (hd (r ++ c :: q) 0 = 124) = (hd r 0 = 124) := testS hc (fun c => c = 124) (by decide) (by decide) r q 0 (Nat.zero_le _)
  simp only [e, h1]
  split
  · rfl
  · split
    · rename_i ho
      have hr : 1 ≤ r.length := by
        cases r with
        | nil => exact absurd ho (by decide)
        | cons => simp
      have h2 : (opc (hd (r ++ c :: q) 1) && hd (r ++ c :: q) 1 != 45) = (opc (hd r 1) && hd r 1 != 45) := testS hc (fun c => opc c && c != 45) (by decide) (by decide) r q 1 hr
      rw [h2]
    · rfl
theorem txtS : ∀ (r q : Bytes) (x : Bytes × Nat), txt r = some x → txt (r ++ c :: q) = some x
  | [], _, _, h => by simp [txt] at h
  | [d], q, x, h => by
    have hc39 : c ≠ 39 := by rcases hc with rfl | rfl <;> decide
    simp only [txt] at h
    split at h
    · rename_i hd'
      subst hd'
      simp only [Option.some.injEq] at h
      subst h
      simp [txt, hc39]
    · simp at h
  | d :: e :: t, q, x, h => by
    rw [txt.eq_def] at h
    simp only at h
    show txt (d :: e :: (t ++ c :: q)) = _
    rw [txt.eq_def]
    simp only
    split at h
    · rename_i h1
      rw [if_pos h1]
      split at h
      · rename_i h2
        rw [if_pos h2]
        obtain ⟨y, hy, hx⟩ := Option.map_eq_some_iff.1 h
        rw [txtS t q y hy]
        simpa using hx
      · rename_i h2
        rw [if_neg h2]; exact h
    · rename_i h1
      rw [if_neg h1]
      obtain ⟨y, hy, hx⟩ := Option.map_eq_some_iff.1 h
      have := txtS (e :: t) q y hy
      rw [List.cons_append] at this
      rw [this]
      simpa using hx
theorem symLS (r q : Bytes) : symL (r ++ c :: q) = symL r := by
  unfold symL
  rw [testS hc letter (by decide) (by decide) r q 0 (Nat.zero_le _), kwS hc, nameS hc, operS hc]
theorem symRS (r q : Bytes) (t : Tok) (n : Nat) (h : symR r = .ok (t, n)) : symR (r ++ c :: q) = .ok (t, n) := by
  unfold symR at h ⊢
  have e40 : (hd (r ++ c :: q) 0 = 40) = (hd r 0 = 40) := testS hc (fun c => c = 40) (by decide) (by decide) r q 0 (Nat.zero_le _)
  have e39 : (hd (r ++ c :: q) 0 = 39) = (hd r 0 = 39) := testS hc (fun c => c = 39) (by decide) (by decide) r q 0 (Nat.zero_le _)
  simp only [e40, e39, symLS hc]
  split at h
  · rename_i h1
    rw [if_pos h1]; exact h
  · rename_i h1
    rw [if_neg h1]
    split at h
    · rename_i h2
      rw [if_pos h2]
      cases r with
      | nil => exact absurd h2 (by decide)
      | cons d r =>
        simp only [List.cons_append, List.drop_succ_cons, List.drop_zero] at h ⊢
        cases hx : txt r with
        | none => rw [hx] at h; cases h
        | some x => rw [txtS hc r q x hx]; rw [hx] at h; exact h
    · rename_i h2
      rw [if_neg h2, takeS hc r q _ (symL_le r)]; exact h
theorem tokS (r q : Bytes) (t : Tok) (n : Nat) (hr : r ≠ []) (h : tokR r = .ok (t, n)) : tokR (r ++ c :: q) = .ok (t, n) := by
  cases r with
  | nil => exact absurd rfl hr
  | cons d r =>
    have hn := nameS hc (d :: r) q
    have hcol : colonB ((d :: r ++ c :: q).drop (nameL (d :: r))) = colonB ((d :: r).drop (nameL (d :: r))) := by rw [dropS hc _ _ _ (nameL_le _), colonS hc]
    have hw : wordL (d :: r ++ c :: q) = wordL (d :: r) := by unfold wordL; rw [hn, hcol]
    have htw := twS hc digit (d :: r) q (by decide) (by decide)
    have hop := operS hc (d :: r) q
    have htk := takeS hc (d :: r) q _ (wordL_le (d :: r))
    have hto := takeS hc (d :: r) q _ (operL_le (d :: r))
    rw [List.cons_append] at hn hcol hw htw hop htk hto ⊢
    rw [tok_of] at h ⊢
    unfold tokC at h ⊢
    rw [hw, hn, hcol, htw, hop, htk, hto]
    split at h
    · rename_i h1; rw [if_pos h1]; exact h
    · rename_i h1
      rw [if_neg h1]
      split at h
      · rename_i h2; rw [if_pos h2]; exact h
      · rename_i h2
        rw [if_neg h2]
        split at h
        · rename_i h3
          rw [if_pos h3]
          cases r with
          | nil => cases h
          | cons e r => rw [if_neg (by simp)] at h ⊢; exact h
        · rename_i h3
          rw [if_neg h3]
          split at h
          · rename_i h4
            rw [if_pos h4]
            cases hx : txt r with
            | none => rw [hx] at h; cases h
            | some x => rw [txtS hc r q x hx]; rw [hx] at h; exact h
          · rename_i h4
            rw [if_neg h4]
            split at h
            · rename_i h5; rw [if_pos h5]; exact symRS hc r q t n h
            · rename_i h5
              rw [if_neg h5]
              split at h
              · rename_i h6
                rw [if_pos h6]
                have e61 : (hd (r ++ c :: q) 0 = 61) = (hd r 0 = 61) := testS hc (fun c => c = 61) (by decide) (by decide) r q 0 (Nat.zero_le _)
                simp only [e61]; exact h
              · rename_i h6
                rw [if_neg h6]; exact h
end
/-- The same token, but for its place. -/
def Same (t u : Tok) : Prop := t.kind = u.kind ∧ t.word = u.word ∧ t.num = u.num
/-- Texts that are read as nothing: a blank, notes of one byte each with a line's end and a blank behind. -/
def notesL : Bytes → Bytes
  | [] => []
  | c :: l => if c = 34 then notesL l else 34 :: c :: 34 :: 10 :: 32 :: notesL l
theorem sk_notes : ∀ (l q : Bytes) (p : Nat), sk none p (notesL l ++ q) = sk none (p + (notesL l).length) q
  | [], q, p => rfl
  | c :: l, q, p => by
    unfold notesL
    split
    · exact sk_notes l q p
    · rename_i hc
      have := sk_notes l q (p + 5)
      have b34 : blank 34 = false := by decide
      have b10 : blank 10 = true := by decide
      have b32 : blank 32 = true := by decide
      simp only [List.cons_append, sk, b34, b10, b32, if_neg hc, if_true, Bool.false_eq_true, if_false]
      rw [show p + 1 + 1 + 1 + 1 + 1 = p + 5 by omega, this]
      simp only [List.length_cons]
      congr 1; omega
theorem sk_sp (q : Bytes) (p : Nat) : sk none p (32 :: q) = sk none (p + 1) q := by simp only [sk]; rw [if_pos (by decide)]
theorem sk_to (q : Bytes) (p k : Nat) (h : sk none 0 q = .ok k) : sk none p q = .ok (p + k) := by
  have := sk_shift q none 0 p
  simp only [Option.map_none, Nat.zero_add] at this
  rw [this, h, Nat.add_comm]
/-- What LexNotes writes for tokens: notes, a blank, the token. -/
def piece (nt : Bytes) (t : Tok) : Bytes := notesL nt ++ 32 :: sp t
def wholeT : List (Bytes × Tok) → Bytes
  | [] => [32]
  | (nt, t) :: l => piece nt t ++ wholeT l
theorem whole_head (l : List (Bytes × Tok)) : ∃ c q, wholeT l = c :: q ∧ Sep c := by
  cases l with
  | nil => exact ⟨32, [], rfl, .inl rfl⟩
  | cons x l =>
    obtain ⟨nt, t⟩ := x
    unfold wholeT piece
    cases h : notesL nt with
    | nil => exact ⟨32, _, rfl, .inl rfl⟩
    | cons d r =>
      refine ⟨d, _, rfl, ?_⟩
      clear t l
      induction nt with
      | nil => cases h
      | cons c nt ih =>
        unfold notesL at h
        split at h
        · exact ih h
        · injection h with h1 h2; exact .inr h1.symm
/-- A text that is read as just one token is read so with a blank or a note behind. -/
theorem spell_tokR {t : Tok} (h : spellB (sp t) (t.kind : Int) t.word t.num = true) : tokR (sp t) = .ok (⟨t.kind, t.word, t.num, 0⟩, (sp t).length) := by
  unfold spellB at h
  cases hn : nextR (sp t) with
  | error y => rw [hn] at h; cases h
  | ok y =>
    obtain ⟨u, m⟩ := y
    rw [hn] at h
    simp only [Bool.and_eq_true, decide_eq_true_eq] at h
    obtain ⟨⟨⟨⟨h1, h2⟩, h3⟩, h4⟩, h5⟩ := h
    obtain ⟨k, m', v, hsk, htk, hv, hm, _⟩ := nextR_parts _ u m hn
    have hk : k = 0 := by rw [← h4, hv]
    subst hk
    have hv0 := tokR_at _ _ _ htk
    rw [List.drop_zero] at htk
    have hk1 : v.kind = t.kind := by have : u.kind = v.kind := by rw [hv]
                                     omega
    have hk2 : v.word = t.word := by rw [← h2, hv]
    have hk3 : v.num = t.num := by rw [← h3, hv]
    have he : v = ⟨t.kind, t.word, t.num, 0⟩ := by
      cases v; simp only at hk1 hk2 hk3 hv0; rw [hk1, hk2, hk3, hv0]
    rw [he] at htk
    rw [htk]
    congr 2
    omega
theorem end_sp {t : Tok} (hk : t.kind = 0) : sp t = [] := by unfold sp; rw [hk]; rfl
theorem tok_end {t : Tok} (hk : t.kind = 0) (h : spellB (sp t) (t.kind : Int) t.word t.num = true) : t.word = [] ∧ t.num = 0 := by
  have := spell_tokR h
  rw [end_sp hk] at this
  injection this with this
  injection this with h1 h2
  injection h1 with a b c d
  exact ⟨b.symm, c.symm⟩
theorem next_piece (nt : Bytes) (t : Tok) (c : UInt8) (q : Bytes) (hc : Sep c) (hk : t.kind ≠ 0) (h : spellB (sp t) (t.kind : Int) t.word t.num = true) :
    nextR (notesL nt ++ 32 :: (sp t ++ c :: q)) = .ok (⟨t.kind, t.word, t.num, (notesL nt).length + 1⟩, (notesL nt).length + 1 + (sp t).length) := by
  have ht := spell_tokR h
  have hne : sp t ≠ [] := by
    intro e
    rw [e] at ht
    injection ht with ht
    injection ht with h1 _
    injection h1 with h1
    exact hk h1.symm
  have hS := tokS hc (sp t) q _ _ hne ht
  have hs := sk_tok _ _ _ hS
  unfold nextR
  rw [sk_notes, sk_sp, sk_to _ _ 0 hs]
  simp only
  have hd : (notesL nt ++ 32 :: (sp t ++ c :: q)).drop (0 + (notesL nt).length + 1 + 0) = sp t ++ c :: q := by
    rw [show 0 + (notesL nt).length + 1 + 0 = (notesL nt).length + 1 by omega, ← List.drop_drop, List.drop_left, List.drop_succ_cons, List.drop_zero]
  rw [hd, hS]
  simp only
  congr 2 <;> (try omega)
  congr 1; omega
theorem next_last (nt : Bytes) : nextR (notesL nt ++ [32, 32]) = .ok (⟨0, [], 0, (notesL nt).length + 2⟩, (notesL nt).length + 2) := by
  unfold nextR
  rw [sk_notes, show ([32, 32] : Bytes) = 32 :: 32 :: [] from rfl, sk_sp, sk_sp]
  simp only [sk]
  rw [List.drop_eq_nil_of_le (by simp)]
  simp only [tokR]
  congr 2 <;> (try omega)
  congr 1; omega
theorem notes_all (S : Bytes) : ∀ (l : List (Bytes × Tok)) (last f base : Nat), Placed S last (l.map Prod.snd) → (wholeT l).length < f →
    ∃ m, allF f base (wholeT l) = .ok m ∧ m.length = l.length ∧ ∀ (i : Nat) (u : Tok) (v : Bytes × Tok), m[i]? = some u → l[i]? = some v → Same u v.2
  | [], _, _, _, h, _ => h.elim
  | _, _, 0, _, _, h => by omega
  | (nt, t) :: l, last, f + 1, base, h, hf => by
    obtain ⟨_, _, ⟨hsp, _⟩, h5⟩ := h
    have hw : wholeT ((nt, t) :: l) = notesL nt ++ 32 :: (sp t ++ wholeT l) := by
      show piece nt t ++ wholeT l = _
      unfold piece; simp
    rcases h5 with ⟨h6, hk⟩ | ⟨h6, hk, h7⟩
    · have hl : l = [] := List.map_eq_nil_iff.1 h6
      subst hl
      obtain ⟨hw1, hn1⟩ := tok_end hk hsp
      have he : wholeT [(nt, t)] = notesL nt ++ [32, 32] := by rw [hw, end_sp hk]; rfl
      rw [he]
      simp only [allF]
      rw [next_last]
      simp only [if_true]
      refine ⟨_, rfl, rfl, fun i u v hu hv => ?_⟩
      cases i with
      | zero =>
        simp at hu hv
        subst hu; subst hv
        exact ⟨hk.symm, hw1.symm, hn1.symm⟩
      | succ i => simp at hu
    · obtain ⟨c, q, hcq, hc⟩ := whole_head l
      have hnx := next_piece nt t c q hc hk hsp
      rw [← hcq] at hnx
      rw [hw] at hf ⊢
      simp only [allF]
      rw [hnx]
      simp only
      rw [if_neg hk]
      have hd : (notesL nt ++ 32 :: (sp t ++ wholeT l)).drop ((notesL nt).length + 1 + (sp t).length) = wholeT l := by
        rw [Nat.add_assoc, ← List.drop_drop, List.drop_left, Nat.add_comm 1, List.drop_succ_cons, List.drop_left]
      rw [hd]
      obtain ⟨m, hm, hml, hms⟩ := notes_all S l (lastOf t) f (base + ((notesL nt).length + 1 + (sp t).length)) h7 (by
        simp at hf; omega)
      rw [hm]
      refine ⟨_, rfl, by simp [hml], fun i u v hu hv => ?_⟩
      cases i with
      | zero =>
        simp at hu hv
        subst hu; subst hv
        exact ⟨rfl, rfl, rfl⟩
      | succ i => exact hms i u v (by simpa using hu) (by simpa using hv)
/-- Tokens with a blank behind each. -/
def spaced : List Tok → Bytes
  | [] => []
  | t :: l => sp t ++ 32 :: spaced l
theorem next_pre (pre q : Bytes) (hp : pre = [] ∨ pre = [32]) {t : Tok} (hk : t.kind ≠ 0) (h : spellB (sp t) (t.kind : Int) t.word t.num = true) :
    nextR (pre ++ (sp t ++ 32 :: q)) = .ok (⟨t.kind, t.word, t.num, pre.length⟩, pre.length + (sp t).length) := by
  have ht := spell_tokR h
  have hne : sp t ≠ [] := by
    intro e
    rw [e] at ht
    injection ht with ht
    injection ht with h1 _
    injection h1 with h1
    exact hk h1.symm
  have hS := tokS (c := 32) (.inl rfl) (sp t) q _ _ hne ht
  have hs := sk_tok _ _ _ hS
  rcases hp with rfl | rfl
  · rw [List.nil_append]
    have := next_tokR _ _ _ hS
    rw [this]
    simp
  · unfold nextR
    rw [List.singleton_append, sk_sp, sk_to _ _ 0 hs]
    simp only
    rw [show (32 :: (sp t ++ 32 :: q)).drop (0 + 1 + 0) = sp t ++ 32 :: q from rfl, hS]
    simp
theorem next_pre_end (pre : Bytes) (hp : pre = [] ∨ pre = [32]) : nextR pre = .ok (⟨0, [], 0, pre.length⟩, pre.length) := by
  rcases hp with rfl | rfl <;> rfl
theorem spaced_all : ∀ (l : List Tok) (pre : Bytes) (f base : Nat), (pre = [] ∨ pre = [32]) → (∀ t ∈ l, t.kind ≠ 0 ∧ spellB (sp t) (t.kind : Int) t.word t.num = true) → (pre ++ spaced l).length < f →
    ∃ m e, allF f base (pre ++ spaced l) = .ok (m ++ [e]) ∧ m.length = l.length ∧ e.kind = 0 ∧ ∀ (i : Nat) (u v : Tok), m[i]? = some u → l[i]? = some v → Same u v
  | _, _, 0, _, _, _, h => by omega
  | [], pre, f + 1, base, hp, _, _ => by
    refine ⟨[], ⟨0, [], 0, base + pre.length⟩, ?_, rfl, rfl, fun i u v hu _ => by simp at hu⟩
    rw [show pre ++ spaced [] = pre from List.append_nil pre]
    simp only [allF]
    rw [next_pre_end pre hp]
    rfl
  | t :: l, pre, f + 1, base, hp, h, hf => by
    obtain ⟨hk, hsp⟩ := h t List.mem_cons_self
    have hw : pre ++ spaced (t :: l) = pre ++ (sp t ++ 32 :: spaced l) := rfl
    rw [hw] at hf ⊢
    obtain ⟨m, e, hm, hml, hek, hms⟩ := spaced_all l [32] f (base + (pre.length + (sp t).length)) (.inr rfl) (fun u hu => h u (List.mem_cons_of_mem _ hu)) (by
      have hne : 0 < (sp t).length := by
        rcases Nat.eq_zero_or_pos (sp t).length with h0 | h0
        · have ht := spell_tokR hsp
          rw [List.eq_nil_of_length_eq_zero h0] at ht
          injection ht with ht
          injection ht with h1 _
          injection h1 with h1
          exact absurd h1.symm hk
        · exact h0
      simp at hf ⊢; omega)
    simp only [allF]
    rw [next_pre pre (spaced l) hp hk hsp]
    simp only
    rw [if_neg hk]
    have hd : (pre ++ (sp t ++ 32 :: spaced l)).drop (pre.length + (sp t).length) = [32] ++ spaced l := by
      rw [← List.drop_drop, List.drop_left, List.drop_left]; rfl
    rw [hd, hm]
    refine ⟨_ :: m, e, rfl, by simp [hml], hek, fun i u v hu hv => ?_⟩
    cases i with
    | zero =>
      simp at hu hv
      subst hu; subst hv
      exact ⟨rfl, rfl, rfl⟩
    | succ i => exact hms i u v (by simpa using hu) (by simpa using hv)
end Lx
end Go.Proofs.YtpfaldcfnhjlgaaGreatDoor
