/- Package lex, the walk, 14: next whole. -/
import Derived.Test.YthdigbkcffihkaaGreatDoorLxN1
import Derived.Test.YthdigbkcffihkaaGreatDoorLxN2
import Derived.Test.YthdigbkcffihkaaGreatDoorLxN3
import Derived.Test.YthdigbkcffihkaaGreatDoorLxN4
import Derived.Test.YthdigbkcffihkaaGreatDoorLxN5
import Derived.Test.YthdigbkcffihkaaGreatDoorLxN6
import Derived.Test.YthdigbkcffihkaaGreatDoorLxN7
import Derived.Test.YthdigbkcffihkaaGreatDoorLxN8
import Derived.Test.YthdigbkcffihkaaGreatDoorLxN9
import Derived.Test.YthdigbkcffihkaaGreatDoorLxN10
set_option linter.unusedVariables false
namespace Go.Proofs.YthdigbkcffihkaaGreatDoor
open Go.RowKit
namespace Lx
variable {b at_ k p : Nat} {s : ByteArray} {w : World}
theorem next_tok (hs : s.size ≤ 140737488351232) (hat : at_ ≤ s.size) (hrd : Rd RT b s at_ w) (hv : ErrVar w) (hvb : 4 ≠ b) (hk : sk none 0 (s.data.toList.drop at_) = .ok k) (hp : at_ + k = p) (hp2 : p ≤ s.size) :
    Calls Tryz.prog 80 #[.pointer (some ⟨b, 0, none⟩)] w (Toked b s p (tokR (s.data.toList.drop p)) w) := by
  rcases Nat.lt_or_ge p s.size with hlt | hge
  · obtain ⟨c, hc⟩ : ∃ c, hd (s.data.toList.drop p) 0 = c := ⟨_, rfl⟩
    cases hl : letter c
    · cases hdg : digit c
      · by_cases h36 : c = 36
        · by_cases h1 : p + 1 = s.size
          · exact next_dollar_end hs hat hrd hk hp hp2 hc h36 h1
          · exact next_dollar hs hat hrd hk hp hp2 hc h36 (by omega)
        by_cases h39 : c = 39
        · exact next_text hs hat hrd hk hp hp2 hc h39
        by_cases h35 : c = 35
        · exact next_hash hs hat hrd hk hp hp2 hc h35
        by_cases h58 : c = 58
        · by_cases h61 : hd (s.data.toList.drop (p + 1)) 0 = 61
          · exact next_assign hs hat hrd hk hp hp2 hc h58 h61
          · exact next_colon hs hat hrd hk hp hp2 hc h58 h61
        cases hi : sgl c with
        | some i =>
          have h0 : c ≠ 0 := by intro h; rw [h, show sgl 0 = none by decide] at hi; cases hi
          exact next_mark hs hat hrd hk hp hp2 hc h0 hl hdg h36 h39 h35 h58 hi
        | none => exact next_oper hs hat hrd hk hp hp2 hc hlt hl hdg h36 h39 h35 h58 hi
      · exact next_digit hs hat hrd hk hp hp2 hc hl hdg hv hvb
    · cases hcol : colonB (s.data.toList.drop (p + nameL (s.data.toList.drop p)))
      · exact next_name hs hat hrd hk hp hp2 hc hl hcol
      · exact next_keyword hs hat hrd hk hp hp2 hc hl hcol
  · exact next_end hs hat hrd hk hp hp2 (by omega)
theorem next_any (hs : s.size ≤ 140737488351232) (hat : at_ ≤ s.size) (hrd : Rd RT b s at_ w) (hv : ErrVar w) (hvb : 4 ≠ b) :
    Calls Tryz.prog 80 #[.pointer (some ⟨b, 0, none⟩)] w (Toked b s at_ (nextR (s.data.toList.drop at_)) w) := by
  unfold nextR
  cases hk : sk none 0 (s.data.toList.drop at_) with
  | error st => exact next_note hs hat hrd hk
  | ok k =>
    have hle := (sk_le _ _ _ _ hk).2
    rw [dlen] at hle
    have h := next_tok hs hat hrd hv hvb hk rfl (by omega)
    simp only [List.drop_drop]
    cases hE : tokR (s.data.toList.drop (at_ + k)) with
    | error x =>
      obtain ⟨q, n⟩ := x
      rw [hE] at h
      refine h.mono fun e w' hh => ?_
      show Fell b ((at_ + (k + q) : Nat) : Int) n w e w'
      rw [← Nat.add_assoc]; exact hh
    | ok y =>
      obtain ⟨t, n⟩ := y
      rw [hE] at h
      refine h.mono fun e w' hh => ?_
      show Turn RT b s (at_ + (k + n)) (tokV at_ { t with at_ := k + t.at_ }) w e w'
      have : tokV at_ { t with at_ := k + t.at_ } = tokV (at_ + k) t := by
        unfold tokV; simp only; rw [← Nat.add_assoc]
      rw [this, ← Nat.add_assoc]; exact hh
end Lx
end Go.Proofs.YthdigbkcffihkaaGreatDoor
