/- Blanks and notes, a round at a time: plain law. -/
import Derived.Test.YthdigbkcffihkaaGreatDoorLxJoin
import Derived.Lib.Bytealg
namespace Go.Proofs.YthdigbkcffihkaaGreatDoor
namespace Lx
theorem idx_at (c : UInt8) : ∀ (l : Bytes), Lib.indexByte l c = -1 ∨ (0 ≤ Lib.indexByte l c ∧ (Lib.indexByte l c).toNat < l.length)
  | [] => Or.inl rfl
  | b :: l => by
    have ih := idx_at c l
    simp only [Lib.indexByte, List.length_cons]
    split
    · right; constructor
      · omega
      · simp
    · split
      · exact Or.inl rfl
      · rename_i h1 h2
        rcases ih with h | h
        · rw [h] at h2; exact absurd rfl h2
        · right; omega
/-- In a note: to the quote that ends it. -/
theorem sk_note (st : Nat) : ∀ (r : Bytes) (p : Nat), sk (some st) p r = if Lib.indexByte r 34 = -1 then .error st else sk none (p + (Lib.indexByte r 34).toNat + 1) (r.drop ((Lib.indexByte r 34).toNat + 1))
  | [], p => by simp [sk, Lib.indexByte]
  | c :: t, p => by
    by_cases hc : c = 34
    · subst hc
      have hI : Lib.indexByte (34 :: t) 34 = 0 := by simp [Lib.indexByte]
      rw [hI]; simp [sk]
    · have hb : (c == 34) = false := by simpa using hc
      have hs : sk (some st) p (c :: t) = sk (some st) (p + 1) t := by simp only [sk]; rw [if_neg hc]
      rw [hs, sk_note st t (p + 1)]
      rcases idx_at 34 t with h | ⟨h, h'⟩
      · have hI : Lib.indexByte (c :: t) 34 = -1 := by simp only [Lib.indexByte]; rw [hb, h]; rfl
        rw [hI, h]; rfl
      · have h1 : ¬ (Lib.indexByte t 34 == -1) = true := by rw [beq_iff_eq]; omega
        have hI : Lib.indexByte (c :: t) 34 = Lib.indexByte t 34 + 1 := by simp only [Lib.indexByte]; rw [hb, if_neg h1]; rfl
        rw [hI, if_neg (by omega), if_neg (by omega)]
        have h2 : (Lib.indexByte t 34 + 1).toNat = (Lib.indexByte t 34).toNat + 1 := by omega
        rw [h2, List.drop_succ_cons]
        congr 1; omega
theorem sk_blanks : ∀ (r : Bytes) (p : Nat), sk none p r = sk none (p + (r.takeWhile blank).length) (r.drop (r.takeWhile blank).length)
  | [], p => by simp
  | c :: t, p => by
    cases hc : blank c
    · simp [hc]
    · have := sk_blanks t (p + 1)
      simp only [List.takeWhile_cons, hc, if_true, List.length_cons, List.drop_succ_cons]
      rw [show p + ((t.takeWhile blank).length + 1) = p + 1 + (t.takeWhile blank).length by omega, ← this]
      simp [sk, hc]
theorem hd_tw (r : Bytes) : blank (hd (r.drop (r.takeWhile blank).length) 0) = false := by
  induction r with
  | nil => rfl
  | cons c t ih =>
    cases hc : blank c
    · simp [hc, hd]
    · simpa [List.takeWhile_cons, hc] using ih
/-- A round of skip. -/
theorem sk_round (r : Bytes) (p m : Nat) (hm : (r.takeWhile blank).length = m) :
    (hd (r.drop m) 0 ≠ 34 → sk none p r = .ok (p + m)) ∧
    (hd (r.drop m) 0 = 34 → Lib.indexByte (r.drop (m + 1)) 34 = -1 → sk none p r = .error (p + m)) ∧
    (hd (r.drop m) 0 = 34 → Lib.indexByte (r.drop (m + 1)) 34 ≠ -1 → sk none p r = sk none (p + m + (Lib.indexByte (r.drop (m + 1)) 34).toNat + 2) (r.drop (m + (Lib.indexByte (r.drop (m + 1)) 34).toNat + 2))) := by
  have hb := sk_blanks r p
  have hh := hd_tw r
  rw [hm] at hb hh
  have hd1 : r.drop (m + 1) = (r.drop m).drop 1 := by rw [List.drop_drop]
  cases hl : r.drop m with
  | nil =>
    rw [hl] at hb hd1
    refine ⟨fun _ => by rw [hb]; rfl, fun h => absurd h (by decide), fun h => absurd h (by decide)⟩
  | cons c t =>
    rw [hl] at hb hd1 hh
    have hc : hd (c :: t) 0 = c := rfl
    rw [hc] at hh ⊢
    simp only [List.drop_succ_cons, List.drop_zero] at hd1
    rw [hd1]
    refine ⟨fun h => ?_, fun h h2 => ?_, fun h h2 => ?_⟩
    · rw [hb]; simp only [sk, hh]; simp [h]
    · rw [hb]; simp only [sk, hh]; rw [if_pos h, if_neg (by decide), sk_note, if_pos h2]
    · rw [hb]; simp only [sk, hh]; rw [if_pos h, if_neg (by decide), sk_note, if_neg h2]
      have : r.drop (m + (Lib.indexByte t 34).toNat + 2) = t.drop ((Lib.indexByte t 34).toNat + 1) := by
        rw [show m + (Lib.indexByte t 34).toNat + 2 = m + ((Lib.indexByte t 34).toNat + 1 + 1) by omega, ← List.drop_drop, hl, List.drop_succ_cons]
      rw [this]
      congr 1; omega
end Lx
end Go.Proofs.YthdigbkcffihkaaGreatDoor
