/- No error of the lexer has number 0. No program. -/
import Derived.Test.YthdigbkcffihkaaGreatDoorLxJoin
set_option linter.unusedVariables false
namespace Go.Proofs.YthdigbkcffihkaaGreatDoor
namespace Lx
theorem symR_err (r : Bytes) (p : Nat) (n : Int) (h : symR r = .error (p, n)) : n ≠ 0 := by
  unfold symR at h
  split at h
  · cases h
  · split at h
    · split at h
      · cases h; decide
      · split at h
        · cases h; decide
        · split at h
          · cases h; decide
          · cases h
    · split at h
      · cases h; decide
      · split at h
        · cases h; decide
        · cases h
theorem tokR_err (r : Bytes) (p : Nat) (n : Int) (h : tokR r = .error (p, n)) : n ≠ 0 := by
  cases r with
  | nil => cases h
  | cons c t =>
    have h : tokC c t = .error (p, n) := h
    unfold tokC at h
    split at h
    · split at h
      · cases h; decide
      · cases h
    · split at h
      · split at h
        · cases h
        · rename_i hp; cases h; exact hp
      · split at h
        · split at h
          · cases h; decide
          · cases h
        · split at h
          · split at h
            · cases h; decide
            · split at h
              · cases h; decide
              · cases h
          · split at h
            · exact symR_err t p n h
            · split at h
              · split at h <;> cases h
              · split at h
                · cases h
                · split at h
                  · cases h; decide
                  · cases h
theorem nextR_err (r : Bytes) (p : Nat) (n : Int) (h : nextR r = .error (p, n)) : n ≠ 0 := by
  unfold nextR at h
  split at h
  · cases h; decide
  · split at h
    · rename_i q e he
      cases h
      exact tokR_err _ _ _ he
    · cases h
end Lx
end Go.Proofs.YthdigbkcffihkaaGreatDoor
