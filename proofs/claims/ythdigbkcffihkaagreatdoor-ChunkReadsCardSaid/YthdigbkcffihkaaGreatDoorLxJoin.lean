/- Two texts with a blank between have the tokens of the one, and of the other: on lists of bytes. No program. -/
import Derived.Test.YthdigbkcffihkaaGreatDoorLxMath
namespace Go.Proofs.YthdigbkcffihkaaGreatDoor
namespace Lx
theorem tokR_kind (r : Bytes) (t : Tok) (n : Nat) (h : tokR r = .ok (t, n)) : (r = [] ∧ t = ⟨0, [], 0, 0⟩ ∧ n = 0) ∨ (r ≠ [] ∧ t.kind ≠ 0 ∧ 0 < n ∧ n ≤ r.length) := by
  cases r with
  | nil => left; injection h with h; injection h with h1 h2; exact ⟨rfl, h1.symm, h2.symm⟩
  | cons c r =>
    right
    obtain ⟨_, h2, h3, h4⟩ := tokR_app (c :: r) [] t n (by simp) h
    exact ⟨by simp, h3, h4, h2⟩
theorem nextR_ok (r : Bytes) (t : Tok) (n : Nat) (h : nextR r = .ok (t, n)) :
    (t.kind = 0 → t = ⟨0, [], 0, r.length⟩ ∧ n = r.length ∧ sk none 0 r = .ok r.length) ∧ (t.kind ≠ 0 → 0 < n ∧ n ≤ r.length) := by
  unfold nextR at h
  cases hs : sk none 0 r with
  | error st => rw [hs] at h; cases h
  | ok k =>
    rw [hs] at h
    have hk := sk_le r none 0 k hs
    simp only at h
    cases ht : tokR (r.drop k) with
    | error x => rw [ht] at h; cases h
    | ok y =>
      obtain ⟨u, m⟩ := y
      rw [ht] at h
      injection h with h; injection h with h1 h2
      subst h1; subst h2
      rcases tokR_kind _ _ _ ht with ⟨e1, rfl, rfl⟩ | ⟨e1, e2, e3, e4⟩
      · have hl : r.length ≤ k := by simpa using e1
        have hk' : k = r.length := by omega
        subst hk'
        exact ⟨fun _ => ⟨by simp, by omega, rfl⟩, fun hne => absurd rfl hne⟩
      · rw [List.length_drop] at e4
        have : k < r.length := by
          rcases Nat.lt_or_ge k r.length with hh | hh
          · exact hh
          · exact absurd (List.drop_eq_nil_of_le hh) e1
        exact ⟨fun hz => absurd hz e2, fun _ => ⟨by omega, by omega⟩⟩
theorem nextR_tok (r q : Bytes) (t : Tok) (n : Nat) (h : nextR r = .ok (t, n)) (hk : t.kind ≠ 0) : nextR (r ++ 32 :: q) = .ok (t, n) := by
  unfold nextR at h ⊢
  cases hs : sk none 0 r with
  | error st => rw [hs] at h; cases h
  | ok k =>
    have hkl := sk_le r none 0 k hs
    rw [hs] at h
    simp only at h
    cases ht : tokR (r.drop k) with
    | error x => rw [ht] at h; cases h
    | ok y =>
      obtain ⟨u, m⟩ := y
      rw [ht] at h
      injection h with h; injection h with h1 h2
      subst h1; subst h2
      rcases tokR_kind _ _ _ ht with ⟨e1, rfl, rfl⟩ | ⟨e1, e2, e3, e4⟩
      · exact absurd rfl hk
      · have hlt : k < r.length := by
          rcases Nat.lt_or_ge k r.length with hh | hh
          · exact hh
          · exact absurd (List.drop_eq_nil_of_le hh) e1
        rw [sk_app (32 :: q) r none 0 k hs, if_pos (by omega)]
        simp only
        rw [drop_app r q k (by omega), (tokR_app (r.drop k) q u m e1 ht).1]
/-- A result, so many bytes further on. -/
def far (k : Nat) : Except Err (Tok × Nat) → Except Err (Tok × Nat)
  | .error (p, e) => .error (k + p, e)
  | .ok (t, n) => .ok ({ t with at_ := k + t.at_ }, k + n)
theorem nextR_end (r q : Bytes) (t : Tok) (n : Nat) (h : nextR r = .ok (t, n)) (hk : t.kind = 0) : nextR (r ++ 32 :: q) = far (r.length + 1) (nextR q) := by
  obtain ⟨_, _, hs⟩ := (nextR_ok r t n h).1 hk
  have h1 := sk_app (32 :: q) r none 0 _ hs
  rw [if_neg (by omega)] at h1
  have h2 : sk none r.length (32 :: q) = sk none (r.length + 1) q := by
    simp only [sk]; rw [if_pos (by decide)]
  rw [h2] at h1
  have h3 := sk_shift q none 0 (r.length + 1)
  rw [Nat.zero_add] at h3
  have h4 : sk none (r.length + 1) q = match sk none 0 q with | .ok x => .ok (x + (r.length + 1)) | .error x => .error (x + (r.length + 1)) := h3
  rw [h4] at h1
  unfold nextR
  rw [h1]
  cases hq : sk none 0 q with
  | error st => simp only [far]; rw [Nat.add_comm]
  | ok k =>
    simp only
    have hd : (r ++ 32 :: q).drop (k + (r.length + 1)) = q.drop k := by
      rw [show k + (r.length + 1) = r.length + (k + 1) by omega, ← List.drop_drop, List.drop_left, List.drop_succ_cons]
    rw [hd]
    cases ht : tokR (q.drop k) with
    | error x => simp only [far]; rw [show k + (r.length + 1) + x.1 = r.length + 1 + (k + x.1) by omega]
    | ok y =>
      simp only [far]
      rw [show k + (r.length + 1) + y.1.at_ = r.length + 1 + (k + y.1.at_) by omega, show k + (r.length + 1) + y.2 = r.length + 1 + (k + y.2) by omega]
theorem allF_fuel : ∀ (f g base : Nat) (r : Bytes), r.length < f → r.length < g → allF f base r = allF g base r := by
  intro f
  induction f with
  | zero => intro g b r h; omega
  | succ f ih =>
    intro g b r hf hg
    cases g with
    | zero => omega
    | succ g =>
      simp only [allF]
      cases hn : nextR r with
      | error x => rfl
      | ok y =>
        obtain ⟨t, n⟩ := y
        simp only
        split
        · rfl
        · rename_i hk
          obtain ⟨h1, h2⟩ := (nextR_ok r t n hn).2 hk
          rw [ih g (b + n) (r.drop n) (by rw [List.length_drop]; omega) (by rw [List.length_drop]; omega)]
def moved (k : Nat) (t : Tok) : Tok := { t with at_ := k + t.at_ }
theorem allF_base : ∀ (f base k : Nat) (r : Bytes), allF f (k + base) r = match allF f base r with | .error (p, e) => .error (k + p, e) | .ok l => .ok (l.map (moved k)) := by
  intro f
  induction f with
  | zero => intro b k r; rfl
  | succ f ih =>
    intro b k r
    simp only [allF]
    cases hn : nextR r with
    | error x => simp only; rw [Nat.add_assoc]
    | ok y =>
      obtain ⟨t, n⟩ := y
      simp only
      split
      · simp [moved, Nat.add_assoc]
      · rw [Nat.add_assoc, ih (b + n) k (r.drop n)]
        cases allF f (b + n) (r.drop n) with
        | error x => rfl
        | ok l => simp [moved, Nat.add_assoc]
/-- The tokens of the one, then of the other. -/
theorem allF_join (q : Bytes) : ∀ (f base : Nat) (r : Bytes) (x : List Tok), r.length < f → allF f base r = .ok x → ∀ g, (r ++ 32 :: q).length < g →
    allF g base (r ++ 32 :: q) = match allF (q.length + 1) (base + (r.length + 1)) q with | .error e => .error e | .ok y => .ok (x.dropLast ++ y) := by
  intro f
  induction f with
  | zero => intro b r x h; omega
  | succ f ih =>
    intro b r x hf h g hg
    cases g with
    | zero => omega
    | succ g =>
      simp only [allF] at h
      cases hn : nextR r with
      | error y => rw [hn] at h; cases h
      | ok y =>
        obtain ⟨t, n⟩ := y
        rw [hn] at h
        simp only at h
        by_cases hk : t.kind = 0
        · rw [if_pos hk] at h
          injection h with h
          subst h
          have he := nextR_end r q t n hn hk
          simp only [List.dropLast_singleton, List.nil_append]
          have hlen : (r ++ 32 :: q).length = r.length + (q.length + 1) := by simp
          have hf1 := allF_fuel (q.length + 1) (g + 1) (b + (r.length + 1)) q (by omega) (by omega)
          have e : allF (g + 1) b (r ++ 32 :: q) = allF (g + 1) (b + (r.length + 1)) q := by
            simp only [allF]
            rw [he]
            cases hq : nextR q with
            | error z => simp only [far]; rw [show b + (r.length + 1 + z.1) = b + (r.length + 1) + z.1 by omega]
            | ok z =>
              obtain ⟨u, m⟩ := z
              simp only [far]
              rw [show b + (r.length + 1 + u.at_) = b + (r.length + 1) + u.at_ by omega, show b + (r.length + 1 + m) = b + (r.length + 1) + m by omega]
              have hd : (r ++ 32 :: q).drop (r.length + 1 + m) = q.drop m := by
                rw [show r.length + 1 + m = r.length + (m + 1) by omega, ← List.drop_drop, List.drop_left, List.drop_succ_cons]
              rw [hd]
          rw [e, ← hf1]
          cases allF (q.length + 1) (b + (r.length + 1)) q <;> rfl
        · rw [if_neg hk] at h
          obtain ⟨h1, h2⟩ := (nextR_ok r t n hn).2 hk
          cases hr : allF f (b + n) (r.drop n) with
          | error z => rw [hr] at h; cases h
          | ok l =>
            rw [hr] at h
            injection h with h
            subst h
            have hne : l ≠ [] := by
              intro hl
              subst hl
              cases f with
              | zero => omega
              | succ f =>
                simp only [allF] at hr
                split at hr
                · cases hr
                · split at hr
                  · injection hr with hr; cases hr
                  · split at hr
                    · cases hr
                    · injection hr with hr; cases hr
            have hi := ih (b + n) (r.drop n) l (by rw [List.length_drop]; omega) hr g (by
              have : (r ++ 32 :: q).length = r.length + (q.length + 1) := by simp
              rw [List.length_append, List.length_drop, List.length_cons]; omega)
            have hb : b + n + ((r.drop n).length + 1) = b + (r.length + 1) := by rw [List.length_drop]; omega
            rw [hb] at hi
            rw [allF, nextR_tok r q t n hn hk]
            simp only
            rw [if_neg hk, drop_app r q n h2, hi]
            cases allF (q.length + 1) (b + (r.length + 1)) q with
            | error z => rfl
            | ok y => simp only; rw [List.dropLast_cons_of_ne_nil hne, List.cons_append]
theorem allR_join (r q : Bytes) (x : List Tok) (h : allR r = .ok x) :
    allR (r ++ 32 :: q) = match allR q with | .error (p, e) => .error (r.length + 1 + p, e) | .ok y => .ok (x.dropLast ++ y.map (moved (r.length + 1))) := by
  unfold allR at *
  rw [allF_join q (r.length + 1) 0 r x (by omega) h _ (by omega), Nat.zero_add]
  have := allF_base (q.length + 1) 0 (r.length + 1) q
  rw [Nat.add_zero] at this
  rw [this]
  cases allF (q.length + 1) 0 q <;> rfl
end Lx
end Go.Proofs.YthdigbkcffihkaaGreatDoor
