/- Package lex, the walk, 4: name, colon, stop, word. -/
import Derived.Test.YthdigbkcffihkaaGreatDoorLxW3
set_option linter.unusedVariables false
namespace Go.Proofs.YthdigbkcffihkaaGreatDoor
open Go.RowKit
namespace Lx
theorem twl (p : UInt8 → Bool) : ∀ (l : List UInt8) (i : Nat) (h : i < l.length), (i < (l.takeWhile p).length → p l[i] = true) ∧ (i = (l.takeWhile p).length → p l[i] = false)
  | [], i, h => by simp at h
  | c :: l, 0, h => by
    cases hc : p c <;> simp [hc]
  | c :: l, i + 1, h => by
    have ih := twl p l i (by simpa using h)
    cases hc : p c
    · simp [hc]
    · simpa [List.takeWhile_cons, hc] using ih
theorem tw_le (p : UInt8 → Bool) (l : List UInt8) : (l.takeWhile p).length ≤ l.length := (List.takeWhile_prefix p).length_le
theorem dlen (s : ByteArray) (a : Nat) : (s.data.toList.drop a).length = s.size - a := by rw [List.length_drop]; rfl
section
variable (p : UInt8 → Bool) (s : ByteArray) (a : Nat)
theorem tw_fit (ha : a ≤ s.size) : a + ((s.data.toList.drop a).takeWhile p).length ≤ s.size := by
  have := tw_le p (s.data.toList.drop a); rw [dlen] at this; omega
theorem dget (k : Nat) (h : k < s.size) (hk : a ≤ k) (h2 : k - a < (s.data.toList.drop a).length) : (s.data.toList.drop a)[k - a] = s[k] := by
  rw [List.getElem_drop]
  have : a + (k - a) = k := by omega
  simp only [this]; rfl
theorem tw_in (k : Nat) (h : k < s.size) (hk : a ≤ k) (hz : k < a + ((s.data.toList.drop a).takeWhile p).length) : p s[k] = true := by
  have h2 : k - a < (s.data.toList.drop a).length := by rw [dlen]; omega
  have := (twl p (s.data.toList.drop a) (k - a) h2).1 (by omega)
  rwa [dget s a k h hk h2] at this
theorem tw_out (h : a + ((s.data.toList.drop a).takeWhile p).length < s.size) : p s[a + ((s.data.toList.drop a).takeWhile p).length] = false := by
  have h2 : a + ((s.data.toList.drop a).takeWhile p).length - a < (s.data.toList.drop a).length := by rw [dlen]; omega
  have := (twl p (s.data.toList.drop a) _ h2).2 (by omega)
  rwa [dget s a _ h (by omega) h2] at this
end
theorem ext_nil (s : ByteArray) (a : Nat) : s.extract a a = ⟨#[]⟩ := by
  apply ByteArray.ext; simp
variable {b at_ : Nat} {s : ByteArray} {w : World}
abbrev RT : Nat := 139
theorem peekR0 (hs : s.size ≤ 140737488351232) (hat : at_ ≤ s.size) (hrd : Rd RT b s at_ w) :
    Calls Tryz.prog 96 #[.pointer (some ⟨b, 0, none⟩), .int .i64 0] w (Quiet (.int .u8 ((hd (s.data.toList.drop at_) 0).toNat : Int)) w) := peek0 b at_ s w hs hat hrd.c0 hrd.c1
theorem peekR1 (hs : s.size ≤ 140737488351232) (hat : at_ ≤ s.size) (hrd : Rd RT b s at_ w) :
    Calls Tryz.prog 96 #[.pointer (some ⟨b, 0, none⟩), .int .i64 1] w (Quiet (.int .u8 ((hd (s.data.toList.drop at_) 1).toNat : Int)) w) := peek1 b at_ s w hs hat hrd.c0 hrd.c1
set_option maxHeartbeats 2000000 in
theorem name_any (hs : s.size ≤ 140737488351232) (hat : at_ ≤ s.size) (hrd : Rd RT b s at_ w) :
    Calls Tryz.prog 90 #[.pointer (some ⟨b, 0, none⟩)] w (Turn RT b s (at_ + nameL (s.data.toList.drop at_)) (.string (s.extract at_ (at_ + nameL (s.data.toList.drop at_)))) w) := by
  obtain ⟨c, hc⟩ : ∃ c, hd (s.data.toList.drop at_) 0 = c := ⟨_, rfl⟩
  obtain ⟨z, hz⟩ : ∃ z, at_ + nameL (s.data.toList.drop at_) = z := ⟨_, rfl⟩
  rw [hz]
  cases hl : letter c
  · have hz2 : z = at_ := by rw [← hz]; unfold nameL; rw [hc, hl]; rfl
    subst hz2
    go_enter Tryz.func90, Tryz.ntmps90
    go_wp2_with fail
    refine (peekR0 hs hat hrd).mono ?_; rintro e w' ⟨rfl, n1, rfl⟩
    rw [hc]
    go_wp2_with fail
    refine (letter_any c _).mono ?_; rintro e w' ⟨rfl, rfl⟩
    rw [hl]
    go_wp2
    go_ret
    exact ⟨ret1 (by rw [ext_nil]; rfl), hrd.drewN _, (Mv.refl _ _).drewN _⟩
  · have hz2 : z = at_ + ((s.data.toList.drop at_).takeWhile alnum).length := by rw [← hz]; unfold nameL; rw [hc, hl]; rfl
    have H1 : at_ ≤ z := by omega
    have H2 : z ≤ s.size := by rw [hz2]; exact tw_fit alnum s at_ hat
    have H3 : ∀ k, (h : k < s.size) → at_ ≤ k → k < z → alnum s[k] = true := fun k h h1 h2 => tw_in alnum s at_ k h h1 (by rw [← hz2]; exact h2)
    have H4 : (h : z < s.size) → alnum s[z] = false := by subst hz2; exact fun h => tw_out alnum s at_ h
    clear hz hz2
    go_enter Tryz.func90, Tryz.ntmps90
    go_wp2_with fail
    refine (peekR0 hs hat hrd).mono ?_; rintro e w' ⟨rfl, n1, rfl⟩
    rw [hc]
    go_wp2_with fail
    refine (letter_any c _).mono ?_; rintro e w' ⟨rfl, rfl⟩
    rw [hl]
    go_wp2_with fail
    refine (run_alnum b at_ z s _ hs H1 H2 H3 H4 (hrd.drewN n1)).mono ?_; rintro e w' ⟨rfl, hr, hm⟩
    go_wp2
    go_ret
    exact ⟨rfl, hr, ((Mv.refl _ _).drewN _).trans hm⟩
set_option maxHeartbeats 2000000 in
theorem colon_any (hs : s.size ≤ 140737488351232) (hat : at_ ≤ s.size) (hrd : Rd RT b s at_ w) :
    Calls Tryz.prog 98 #[.pointer (some ⟨b, 0, none⟩)] w (Turn RT b s (at_ + if colonB (s.data.toList.drop at_) then 1 else 0) (.bool (colonB (s.data.toList.drop at_))) w) := by
  have c0 := hrd.c0
  have c1 := hrd.c1
  have df := hrd.fz
  obtain ⟨c, hc⟩ : ∃ c, hd (s.data.toList.drop at_) 0 = c := ⟨_, rfl⟩
  obtain ⟨d, hd'⟩ : ∃ d, hd (s.data.toList.drop at_) 1 = d := ⟨_, rfl⟩
  obtain ⟨q, hq⟩ : ∃ q, colonB (s.data.toList.drop at_) = q := ⟨_, rfl⟩
  rw [hq]
  by_cases h58 : c = 58
  · subst h58
    by_cases h61 : d = 61
    · subst h61
      have hq2 : q = false := by rw [← hq]; unfold colonB; rw [hc, hd']; rfl
      subst hq2
      go_enter Tryz.func98, Tryz.ntmps98
      go_wp2_with fail
      refine (peekR0 hs hat hrd).mono ?_; rintro e w' ⟨rfl, n1, rfl⟩
      rw [hc]
      go_wp2_with fail
      refine (peekR1 hs hat (hrd.drewN n1)).mono ?_; rintro e w' ⟨rfl, n2, rfl⟩
      rw [hd']
      go_wp2
      go_ret
      exact ⟨rfl, hrd.drewN _, (Mv.refl _ _).drewN _⟩
    · have hq2 : q = true := by rw [← hq]; unfold colonB; rw [hc, hd']; simpa using h61
      have hn : ((d.toNat : Int) == 61) = false := by
        rw [beq_eq_false_iff_ne]; intro h; exact h61 (UInt8.toNat.inj (by show d.toNat = 61; omega))
      subst hq2
      have hlt : at_ < s.size := by
        rcases Nat.lt_or_ge at_ s.size with h' | h'
        · exact h'
        · have := hd_past s at_ 0 h'; rw [hc] at this; exact absurd this (by decide)
      have hsum : IntKind.i64.wrap ((at_ : Int) + 1) = (at_ : Int) + 1 := IntWalk.i64_in _ (by omega)
      clear h61 hq
      go_enter Tryz.func98, Tryz.ntmps98
      go_wp2_with fail
      refine (peekR0 hs hat hrd).mono ?_; rintro e w' ⟨rfl, n1, rfl⟩
      rw [hc]
      go_wp2_with fail
      refine (peekR1 hs hat (hrd.drewN n1)).mono ?_; rintro e w' ⟨rfl, n2, rfl⟩
      rw [hd']
      go_wp2
      go_ret
      have hS := (hrd.drewN (n1 + n2)).set_ (at_ + 1)
      have hcast : ((at_ + 1 : Nat) : Int) = (at_ : Int) + 1 := by omega
      rw [hcast] at hS
      exact ⟨rfl, hS, ((Mv.refl _ _).drewN _).set_ 1 _⟩
  · have hq2 : q = false := by rw [← hq]; unfold colonB; rw [hc]; simp [h58]
    have hn : ((c.toNat : Int) != 58) = true := by
      rw [bne_iff_ne]; intro h; exact h58 (UInt8.toNat.inj (by show c.toNat = 58; omega))
    subst hq2
    clear h58 hq
    go_enter Tryz.func98, Tryz.ntmps98
    go_wp2_with fail
    refine (peekR0 hs hat hrd).mono ?_; rintro e w' ⟨rfl, n1, rfl⟩
    rw [hc]
    go_wp2
    go_ret
    exact ⟨rfl, hrd.drewN _, (Mv.refl _ _).drewN _⟩
/-- A fault: its place, its number. -/
def flt (a n : Int) : Value := .iface 147 (.agg #[.int .i64 a, .int .i64 n])
/-- It panics with a fault; the world stays. -/
def Dies (a n : Int) (w : World) (e : Ending) (w' : World) : Prop := e = .panicked [{ v := flt a n, recovered := false }] ∧ w = w'
theorem stop_any (a n : Int) (w : World) : Calls Tryz.prog 102 #[.int .i64 a, .int .i64 n] w (Dies a n w) := by
  go_enter Tryz.func102, Tryz.ntmps102
  go_wp2
  exact ⟨rfl, rfl, rfl⟩
end Lx
end Go.Proofs.YthdigbkcffihkaaGreatDoor
