/- Tokens in a row, read. · Where the lexer's errors stand. No program. · A token spelled, and read back. No program. · Quotes doubled: what the library's ReplaceAll does. No program. · Where the tokens of a text stand, and that each is spelled. No program. -/
import Derived.Test.YtmmgfifpjifjnaaGreatDoorLxWb
import Derived.Test.YtmmgfifpjifjnaaGreatDoorLxNa
import Derived.Test.YtmmgfifpjifjnaaGreatDoorLxP0
import Derived.Lib.Bytealg
import Derived.Lib.Replace
import Derived.Lib.IndexBytes
set_option linter.unusedVariables false
namespace Go.Proofs.YtmmgfifpjifjnaaGreatDoor
namespace Lx
theorem symR_err0 (r : Bytes) (p : Nat) (n : Int) (h : symR r = .error (p, n)) : p = 0 := by
 unfold symR at h
 split at h
 · cases h
 split at h
 · split at h
   · cases h; rfl
   split at h
   · cases h; rfl
   split at h
   · cases h; rfl
   cases h
 split at h
 · cases h; rfl
 split at h
 · cases h; rfl
 cases h
theorem tokR_err0 (r : Bytes) (p : Nat) (n : Int) (h : tokR r = .error (p, n)) : p = 0 := by
 cases r with
 | nil => cases h
 | cons c t =>
  have h : tokC c t = .error (p, n) := h
  unfold tokC at h
  split at h
  · split at h
    · cases h; rfl
    cases h
  split at h
  · split at h
    · cases h
    cases h; rfl
  split at h
  · split at h
    · cases h; rfl
    cases h
  split at h
  · split at h
    · cases h; rfl
    split at h
    · cases h; rfl
    cases h
  split at h
  · exact symR_err0 t p n h
  split at h
  · split at h <;> cases h
  split at h
  · cases h
  split at h
  · cases h; rfl
  cases h
theorem sk_err (r : Bytes) : ∀ (m : Option Nat) (p x : Nat), (∀ st, m = some st → st ≤ p) → sk m p r = .error x → x ≤ p + r.length := by
 induction r with
 | nil =>
  intro m p x hm h
  cases m with
  | none => cases h
  | some st => injection h with h; subst h; have := hm _ rfl; simp; omega
 | cons c t ih =>
  intro m p x hm h
  cases m with
  | none =>
   simp only [sk] at h
   split at h
   · have := ih _ _ _ (by intro st hst; cases hst) h; simp; omega
   split at h
   · have := ih _ _ _ (by intro st hst; injection hst with hst; omega) h; simp; omega
   cases h
  | some st =>
   have hst := hm _ rfl
   simp only [sk] at h
   split at h
   · have := ih _ _ _ (by intro st hst; cases hst) h; simp; omega
   have := ih _ _ _ (by intro st' hst'; injection hst' with hst'; omega) h; simp; omega
theorem nextR_errle (r : Bytes) (p : Nat) (n : Int) (h : nextR r = .error (p, n)) : p ≤ r.length := by
 unfold nextR at h
 split at h
 · rename_i st hs
   cases h
   have := sk_err r none 0 _ (by intro st hst; cases hst) hs
   omega
 rename_i k hs
 have := (sk_le r none 0 k hs).2
 split at h
 · rename_i q e he
   cases h
   have := tokR_err0 _ _ _ he
   omega
 cases h
theorem symR_at (r : Bytes) (t : Tok) (n : Nat) (h : symR r = .ok (t, n)) : t.at_ = 0 := by
 unfold symR at h
 split at h
 · cases h; rfl
 split at h
 · split at h
   · cases h
   split at h
   · cases h
   split at h
   · cases h
   cases h; rfl
 split at h
 · cases h
 split at h
 · cases h
 cases h; rfl
theorem tokR_at (r : Bytes) (t : Tok) (n : Nat) (h : tokR r = .ok (t, n)) : t.at_ = 0 := by
 cases r with
 | nil => cases h; rfl
 | cons c u =>
  have h : tokC c u = .ok (t, n) := h
  unfold tokC at h
  split at h
  · split at h
    · cases h
    cases h; rfl
  split at h
  · split at h
    · cases h; rfl
    cases h
  split at h
  · split at h
    · cases h
    cases h; rfl
  split at h
  · split at h
    · cases h
    split at h
    · cases h
    cases h; rfl
  split at h
  · exact symR_at u t n h
  split at h
  · split at h <;> (cases h; rfl)
  split at h
  · cases h; rfl
  split at h
  · cases h
  cases h; rfl
theorem nextR_parts (r : Bytes) (t : Tok) (n : Nat) (h : nextR r = .ok (t, n)) : ∃ k m u, sk none 0 r = .ok k ∧ tokR (r.drop k) = .ok (u, m) ∧ t = { u with at_ := k } ∧ n = k + m ∧ k ≤ r.length := by
 unfold nextR at h
 split at h
 · cases h
 rename_i k hs
 have hk := (sk_le r none 0 k hs).2
 split at h
 · cases h
 rename_i u m hu
 injection h with h
 injection h with h1 h2
 refine ⟨k, m, u, hs, hu, ?_, h2.symm, by omega⟩
 rw [← h1, tokR_at _ _ _ hu, Nat.add_zero]
theorem nextR_at (r : Bytes) (t : Tok) (n : Nat) (h : nextR r = .ok (t, n)) : t.at_ ≤ r.length := by
 obtain ⟨k, m, u, _, _, rfl, _, hk⟩ := nextR_parts r t n h
 exact hk
end Lx
end Go.Proofs.YtmmgfifpjifjnaaGreatDoor
namespace Go.Proofs.YtmmgfifpjifjnaaGreatDoor
namespace Lx
def esc : Bytes → Bytes
 | [] => []
 | c :: t => if c = 39 then 39 :: 39 :: esc t else c :: esc t
def quoteL (w : Bytes) : Bytes := 39 :: (esc w ++ [39])
def arityP (w : Bytes) : Int :=
 if w = [] then -1 else if 64 < w.length then -1 else if kwL w = w.length then (Lib.countByte w 58) else if nameL w = w.length then 0 else if operL w = w.length then 1 else -1
def spelledL (k : Int) (w : Bytes) (n : Int) : Bytes :=
 if k = 1 ∨ k = 2 ∨ k = 6 then w
 else if k = 3 then Lib.itoa n
 else if k = 4 then quoteL w
 else if k = 5 then (if arityP w < 0 then 35 :: quoteL w else 35 :: w)
 else if 8 ≤ k ∧ k ≤ 14 then [singleL.getD (k - 8).toNat 0]
 else if k = 7 then [58, 61]
 else if k = 15 then [35, 40]
 else if k = 16 then [58]
 else []
/-! ### cut texts -/
/-! ### a token's text -/
theorem digs_val (ds : Bytes) (hd' : ds.all digit = true) (hp : Sm.pe ds = 0) : 0 ≤ Sm.pv ds ∧ Sm.pv ds ≤ 4611686018427387903 := by
 have e2 : Sm.pv ds = Sm.num ds := by unfold Sm.pv; rw [if_pos hp]
 have h1 : Sm.num ds ≤ 4611686018427387903 := by
  unfold Sm.pe at hp
  split at hp
  · split at hp
    · rename_i h; exact h.2
    exact absurd hp (by decide)
  exact absurd hp (by decide)
 rw [e2]
 refine ⟨?_, h1⟩
 rcases Sm.digs_cases ds with ⟨r, e, _, _⟩ | ⟨_, e⟩
 · rw [e] at hd'; exact absurd (List.all_eq_true.1 hd' 45 List.mem_cons_self) (by decide)
 unfold Sm.num; rw [e]; simp
set_option maxRecDepth 100000 in
theorem sgl_get {c : UInt8} {i : Nat} (h : sgl c = some i) : i ≤ 6 ∧ [singleL.getD i 0] = [c] ∧ letter c = false ∧ digit c = false ∧ c ≠ 36 ∧ c ≠ 39 ∧ c ≠ 35 ∧ c ≠ 58 := by
 have hh : ∀ n : Fin 256, (match sgl (UInt8.ofNat n.val) with | some i => decide (i ≤ 6) && decide ([singleL.getD i 0] = [UInt8.ofNat n.val]) && !letter (UInt8.ofNat n.val) && !digit (UInt8.ofNat n.val) && decide (UInt8.ofNat n.val ≠ 36) && decide (UInt8.ofNat n.val ≠ 39) && decide (UInt8.ofNat n.val ≠ 35) && decide (UInt8.ofNat n.val ≠ 58) | none => true) = true := by decide
 have := hh ⟨c.toNat, c.toNat_lt⟩
 simp only [UInt8.ofNat_toNat] at this
 rw [h] at this
 simp only [Bool.and_eq_true, decide_eq_true_eq, Bool.not_eq_true'] at this
 obtain ⟨⟨⟨⟨⟨⟨⟨a, b⟩, c1⟩, d⟩, e⟩, f⟩, g⟩, k⟩ := this
 exact ⟨a, b, c1, d, e, f, g, k⟩
def plainK (k : Int) : Prop := k ≠ 3 ∧ k ≠ 5
end Lx
end Go.Proofs.YtmmgfifpjifjnaaGreatDoor
namespace Go.Proofs.YtmmgfifpjifjnaaGreatDoor
namespace Lx
end Lx
end Go.Proofs.YtmmgfifpjifjnaaGreatDoor
namespace Go.Proofs.YtmmgfifpjifjnaaGreatDoor
namespace Lx
def sp (t : Tok) : Bytes := spelledL (t.kind : Int) t.word t.num
instance (k : Int) : Decidable (plainK k) := inferInstanceAs (Decidable (k ≠ 3 ∧ k ≠ 5))
def Small (t : Tok) : Prop := t.kind ≤ 16 ∧ 0 ≤ t.num ∧ t.num ≤ 4611686018427387903 ∧ t.word.length ≤ 4096
theorem symR_in (r : Bytes) (t : Tok) (n : Nat) (h : symR r = .ok (t, n)) : Small t := by
 unfold symR at h
 split at h
 · cases h; exact ⟨by decide, by decide, by decide, by decide⟩
 split at h
 · split at h
   · cases h
   split at h
   · cases h
   split at h
   · cases h
   rename_i h1 h2; cases h; exact ⟨by simp only; omega, by simp only; omega, by simp only; omega, by simp only; omega⟩
 split at h
 · cases h
 split at h
 · cases h
 rename_i h1 h2; cases h; exact ⟨by simp only; omega, by simp only; omega, by simp only; omega, by simp only [List.length_take]; omega⟩
theorem tokR_in (r : Bytes) (t : Tok) (n : Nat) (h : tokR r = .ok (t, n)) : Small t := by
 cases r with
 | nil => cases h; exact ⟨by decide, by decide, by decide, by decide⟩
 | cons c u =>
  have h : tokC c u = .ok (t, n) := h
  unfold tokC at h
  split at h
  · split at h
    · cases h
    rename_i h1 h2; cases h; exact ⟨by simp only; split <;> omega, by simp only; omega, by simp only; omega, by simp only [List.length_take]; omega⟩
  split at h
  · split at h
    · rename_i h3
      cases h
      have := digs_val _ (List.all_takeWhile (p := digit) (l := c :: u)) h3
      exact ⟨by simp only; omega, this.1, this.2, by simp⟩
    cases h
  split at h
  · split at h
    · cases h
    cases h
    have := (hd u 0).toNat_lt
    exact ⟨by simp only; omega, by simp only; omega, by simp only; omega, by simp⟩
  split at h
  · split at h
    · cases h
    split at h
    · cases h
    rename_i h1 h2; cases h; exact ⟨by simp only; omega, by simp only; omega, by simp only; omega, by simp only; omega⟩
  split at h
  · exact symR_in u t n h
  split at h
  · split at h <;> (cases h; exact ⟨by simp only; omega, by simp only; omega, by simp only; omega, by simp⟩)
  split at h
  · rename_i i hs; cases h; have := (sgl_get hs).1; exact ⟨by simp only; omega, by simp only; omega, by simp only; omega, by simp⟩
  split at h
  · cases h
  cases h
  have h2 : operL (c :: u) ≤ 2 := by unfold operL; split <;> (try split) <;> (try split) <;> omega
  exact ⟨by simp only; omega, by simp only; omega, by simp only; omega, by simp only [List.length_take]; omega⟩
end Lx
end Go.Proofs.YtmmgfifpjifjnaaGreatDoor
