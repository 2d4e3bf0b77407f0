/- Where the lexer's errors stand. No program. -/
import Derived.Test.YtpfaldcfnhjlgaaGreatDoorLxErr
set_option linter.unusedVariables false
namespace Go.Proofs.YtpfaldcfnhjlgaaGreatDoor
namespace Lx
theorem symR_err0 (r : Bytes) (p : Nat) (n : Int) (h : symR r = .error (p, n)) : p = 0 := by
  unfold symR at h
  split at h
  · cases h
  · split at h
    · split at h
      · cases h; rfl
      · split at h
        · cases h; rfl
        · split at h
          · cases h; rfl
          · cases h
    · split at h
      · cases h; rfl
      · split at h
        · cases h; rfl
        · cases h
theorem tokR_err0 (r : Bytes) (p : Nat) (n : Int) (h : tokR r = .error (p, n)) : p = 0 := by
  cases r with
  | nil => cases h
  | cons c t =>
    have h : tokC c t = .error (p, n) := h
    unfold tokC at h
    split at h
    · split at h
      · cases h; rfl
      · cases h
    · split at h
      · split at h
        · cases h
        · cases h; rfl
      · split at h
        · split at h
          · cases h; rfl
          · cases h
        · split at h
          · split at h
            · cases h; rfl
            · split at h
              · cases h; rfl
              · cases h
          · split at h
            · exact symR_err0 t p n h
            · split at h
              · split at h <;> cases h
              · split at h
                · cases h
                · split at h
                  · cases h; rfl
                  · cases h
theorem sk_err (r : Bytes) : ∀ (m : Option Nat) (p x : Nat), (∀ st, m = some st → st ≤ p) → sk m p r = .error x → x ≤ p + r.length := by
  induction r with
  | nil =>
    intro m p x hm h
    cases m with
    | none => cases h
    | some st => injection h with h; subst h; have := hm _ rfl; simp; omega
  | cons c t ih =>
    intro m p x hm h
    cases m with
    | none =>
      simp only [sk] at h
      split at h
      · have := ih _ _ _ (by intro st hst; cases hst) h; simp; omega
      · split at h
        · have := ih _ _ _ (by intro st hst; injection hst with hst; omega) h; simp; omega
        · cases h
    | some st =>
      have hst := hm _ rfl
      simp only [sk] at h
      split at h
      · have := ih _ _ _ (by intro st hst; cases hst) h; simp; omega
      · have := ih _ _ _ (by intro st' hst'; injection hst' with hst'; omega) h; simp; omega
theorem nextR_errle (r : Bytes) (p : Nat) (n : Int) (h : nextR r = .error (p, n)) : p ≤ r.length := by
  unfold nextR at h
  split at h
  · rename_i st hs
    cases h
    have := sk_err r none 0 _ (by intro st hst; cases hst) hs
    omega
  · rename_i k hs
    have := (sk_le r none 0 k hs).2
    split at h
    · rename_i q e he
      cases h
      have := tokR_err0 _ _ _ he
      omega
    · cases h
theorem symR_at (r : Bytes) (t : Tok) (n : Nat) (h : symR r = .ok (t, n)) : t.at_ = 0 := by
  unfold symR at h
  split at h
  · cases h; rfl
  · split at h
    · split at h
      · cases h
      · split at h
        · cases h
        · split at h
          · cases h
          · cases h; rfl
    · split at h
      · cases h
      · split at h
        · cases h
        · cases h; rfl
theorem tokR_at (r : Bytes) (t : Tok) (n : Nat) (h : tokR r = .ok (t, n)) : t.at_ = 0 := by
  cases r with
  | nil => cases h; rfl
  | cons c u =>
    have h : tokC c u = .ok (t, n) := h
    unfold tokC at h
    split at h
    · split at h
      · cases h
      · cases h; rfl
    · split at h
      · split at h
        · cases h; rfl
        · cases h
      · split at h
        · split at h
          · cases h
          · cases h; rfl
        · split at h
          · split at h
            · cases h
            · split at h
              · cases h
              · cases h; rfl
          · split at h
            · exact symR_at u t n h
            · split at h
              · split at h <;> (cases h; rfl)
              · split at h
                · cases h; rfl
                · split at h
                  · cases h
                  · cases h; rfl
/-- Where a token begins: behind blanks and notes. -/
theorem nextR_parts (r : Bytes) (t : Tok) (n : Nat) (h : nextR r = .ok (t, n)) : ∃ k m u, sk none 0 r = .ok k ∧ tokR (r.drop k) = .ok (u, m) ∧ t = { u with at_ := k } ∧ n = k + m ∧ k ≤ r.length := by
  unfold nextR at h
  split at h
  · cases h
  · rename_i k hs
    have hk := (sk_le r none 0 k hs).2
    split at h
    · cases h
    · rename_i u m hu
      injection h with h
      injection h with h1 h2
      refine ⟨k, m, u, hs, hu, ?_, h2.symm, by omega⟩
      rw [← h1, tokR_at _ _ _ hu, Nat.add_zero]
theorem nextR_at (r : Bytes) (t : Tok) (n : Nat) (h : nextR r = .ok (t, n)) : t.at_ ≤ r.length := by
  obtain ⟨k, m, u, _, _, rfl, _, hk⟩ := nextR_parts r t n h
  exact hk
/-- The last token of a list, and no other, is the end. -/
theorem allF_last : ∀ (f base : Nat) (r : Bytes) (l : List Tok), r.length < f → allF f base r = .ok l → ∃ l' t, l = l' ++ [t] ∧ t.kind = 0 ∧ ∀ u ∈ l', u.kind ≠ 0
  | 0, _, _, _, h, _ => by omega
  | f + 1, base, r, l, hf, h => by
    simp only [allF] at h
    cases hn : nextR r with
    | error y => rw [hn] at h; cases h
    | ok y =>
      obtain ⟨t, n⟩ := y
      rw [hn] at h
      simp only at h
      by_cases hk : t.kind = 0
      · rw [if_pos hk] at h
        injection h with h
        subst h
        exact ⟨[], _, rfl, hk, fun u hu => by cases hu⟩
      · rw [if_neg hk] at h
        obtain ⟨h1, h2⟩ := (nextR_ok r t n hn).2 hk
        cases hr : allF f (base + n) (r.drop n) with
        | error z => rw [hr] at h; cases h
        | ok l2 =>
          rw [hr] at h
          injection h with h
          subst h
          obtain ⟨l', t', e, h3, h4⟩ := allF_last f (base + n) (r.drop n) l2 (by rw [List.length_drop]; omega) hr
          refine ⟨_ :: l', t', by rw [e]; rfl, h3, fun u hu => ?_⟩
          rcases List.mem_cons.1 hu with rfl | hu
          · exact hk
          · exact h4 u hu
theorem allR_last (r : Bytes) (l : List Tok) (h : allR r = .ok l) : ∃ l' t, l = l' ++ [t] ∧ t.kind = 0 ∧ ∀ u ∈ l', u.kind ≠ 0 := allF_last _ _ r l (by omega) h
theorem allF_err : ∀ (f base : Nat) (r : Bytes) (p : Nat) (n : Int), allF f base r = .error (p, n) → n ≠ 0 ∧ p ≤ base + r.length
  | 0, _, _, _, _, h => by cases h
  | f + 1, base, r, p, n, h => by
    simp only [allF] at h
    cases hn : nextR r with
    | error y =>
      obtain ⟨q, e⟩ := y
      rw [hn] at h
      injection h with h
      injection h with h1 h2
      subst h1; subst h2
      exact ⟨nextR_err r q e hn, by have := nextR_errle r q e hn; omega⟩
    | ok y =>
      obtain ⟨t, m⟩ := y
      rw [hn] at h
      simp only at h
      by_cases hk : t.kind = 0
      · rw [if_pos hk] at h; cases h
      · rw [if_neg hk] at h
        obtain ⟨h1, h2⟩ := (nextR_ok r t m hn).2 hk
        cases hr : allF f (base + m) (r.drop m) with
        | error z =>
          obtain ⟨q, e⟩ := z
          rw [hr] at h
          injection h with h
          injection h with h3 h4
          subst h3; subst h4
          obtain ⟨h5, h6⟩ := allF_err f (base + m) (r.drop m) q e hr
          rw [List.length_drop] at h6
          exact ⟨h5, by omega⟩
        | ok l2 => rw [hr] at h; cases h
theorem allR_err (r : Bytes) (p : Nat) (n : Int) (h : allR r = .error (p, n)) : n ≠ 0 ∧ p ≤ r.length := by
  have := allF_err _ _ r p n h; omega
/-- All places lie within the text, and there are no more tokens than bytes, and the end. -/
theorem allF_in : ∀ (f base : Nat) (r : Bytes) (l : List Tok), r.length < f → allF f base r = .ok l → l.length ≤ r.length + 1 ∧ ∀ t ∈ l, t.at_ ≤ base + r.length
  | 0, _, _, _, h, _ => by omega
  | f + 1, base, r, l, hf, h => by
    simp only [allF] at h
    cases hn : nextR r with
    | error y => rw [hn] at h; cases h
    | ok y =>
      obtain ⟨t, n⟩ := y
      have hat := nextR_at r t n hn
      rw [hn] at h
      simp only at h
      by_cases hk : t.kind = 0
      · rw [if_pos hk] at h
        injection h with h
        subst h
        refine ⟨by simp, fun u hu => ?_⟩
        rw [List.mem_singleton] at hu
        subst hu
        simp only; omega
      · rw [if_neg hk] at h
        obtain ⟨h1, h2⟩ := (nextR_ok r t n hn).2 hk
        cases hr : allF f (base + n) (r.drop n) with
        | error z => rw [hr] at h; cases h
        | ok l2 =>
          rw [hr] at h
          injection h with h
          subst h
          obtain ⟨h3, h4⟩ := allF_in f (base + n) (r.drop n) l2 (by rw [List.length_drop]; omega) hr
          rw [List.length_drop] at h3 h4
          refine ⟨by simp; omega, fun u hu => ?_⟩
          rcases List.mem_cons.1 hu with rfl | hu
          · simp only; omega
          · have := h4 u hu; omega
theorem allR_in (r : Bytes) (l : List Tok) (h : allR r = .ok l) : l.length ≤ r.length + 1 ∧ ∀ t ∈ l, t.at_ ≤ r.length := by
  have := allF_in _ 0 r l (by omega) h
  rw [Nat.zero_add] at this; exact this
end Lx
end Go.Proofs.YtpfaldcfnhjlgaaGreatDoor
