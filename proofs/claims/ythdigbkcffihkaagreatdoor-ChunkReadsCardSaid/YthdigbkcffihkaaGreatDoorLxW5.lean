/- Package lex, the walk, 5: word, oper. -/
import Derived.Test.YthdigbkcffihkaaGreatDoorLxW4
set_option linter.unusedVariables false
namespace Go.Proofs.YthdigbkcffihkaaGreatDoor
open Go.RowKit
namespace Lx
variable {b at_ : Nat} {s : ByteArray} {w : World}
theorem word_ok (a : Int) (s : ByteArray) (w : World) (h : s.size ≤ 64) : Calls Tryz.prog 99 #[.int .i64 a, .string s] w (Done (.string s) w) := by
  have h1 : ¬ (64 : Int) < (s.size : Int) := by omega
  clear h
  go_enter Tryz.func99, Tryz.ntmps99
  go_wp2
  go_ret
  exact ⟨rfl, rfl⟩
theorem word_long (a : Int) (s : ByteArray) (w : World) (h : 64 < s.size) : Calls Tryz.prog 99 #[.int .i64 a, .string s] w (Dies a 2 w) := by
  have h1 : (64 : Int) < (s.size : Int) := by omega
  clear h
  go_enter Tryz.func99, Tryz.ntmps99
  go_wp2_with fail
  refine (stop_any a 2 _).mono ?_; rintro e w' ⟨rfl, rfl⟩
  go_wp2
  exact ⟨rfl, rfl, rfl⟩
theorem ext_one (s : ByteArray) (a : Nat) (h : a < s.size) : s.extract a (a + 1) = ⟨#[s[a]]⟩ := by
  apply ByteArray.ext
  apply Array.ext
  · simp; show min (a + 1) s.size - a = 1; omega
  · intro i h1 h2
    have : i = 0 := by simpa using h2
    subst this
    simp; rfl
theorem bne_u8 (d : UInt8) (k : Nat) (hk : k < 256) (h : d ≠ UInt8.ofNat k) : ((d.toNat : Int) == (k : Int)) = false := by
  rw [beq_eq_false_iff_ne]; intro h'
  exact h (UInt8.toNat.inj (by rw [UInt8.toNat_ofNat']; omega))
set_option maxHeartbeats 4000000 in
theorem oper_any (hs : s.size ≤ 140737488351232) (hat : at_ ≤ s.size) (hrd : Rd RT b s at_ w) :
    Calls Tryz.prog 91 #[.pointer (some ⟨b, 0, none⟩)] w (Turn RT b s (at_ + operL (s.data.toList.drop at_)) (.string (s.extract at_ (at_ + operL (s.data.toList.drop at_)))) w) := by
  have c0 := hrd.c0
  have c1 := hrd.c1
  have df := hrd.fz
  obtain ⟨c, hc⟩ : ∃ c, hd (s.data.toList.drop at_) 0 = c := ⟨_, rfl⟩
  obtain ⟨d, hd'⟩ : ∃ d, hd (s.data.toList.drop at_) 1 = d := ⟨_, rfl⟩
  have hle := operL_le (s.data.toList.drop at_)
  rw [dlen] at hle
  obtain ⟨q, hq⟩ : ∃ q, operL (s.data.toList.drop at_) = q := ⟨_, rfl⟩
  rw [hq] at hle ⊢
  have hq3 : q = if c = 124 then 1 else if opc c then (if opc d && d != 45 then 2 else 1) else 0 := by rw [← hq]; unfold operL; rw [hc, hd']
  clear hq
  by_cases h124 : c = 124
  · subst h124
    rw [if_pos rfl] at hq3
    subst hq3
    have hlt : at_ < s.size := by omega
    have hg : s[at_] = 124 := by have := hd_drop s at_ 0 hlt; rw [hc] at this; exact this.symm
    have hx := ext_one s at_ hlt
    rw [hg] at hx
    have HX := Lib.hid hx; clear hx hg
    have hsum : IntKind.i64.wrap ((at_ : Int) + 1) = (at_ : Int) + 1 := IntWalk.i64_in _ (by omega)
    go_enter Tryz.func91, Tryz.ntmps91
    go_wp2_with fail
    refine (peekR0 hs hat hrd).mono ?_; rintro e w' ⟨rfl, n1, rfl⟩
    rw [hc]
    go_wp2
    go_ret
    have hS := (hrd.drewN n1).set_ (at_ + 1)
    have hcast : ((at_ + 1 : Nat) : Int) = (at_ : Int) + 1 := by omega
    rw [hcast] at hS
    exact ⟨ret1 (by rw [HX.out]; rfl), hS, ((Mv.refl _ _).drewN _).set_ 1 _⟩
  · rw [if_neg h124] at hq3
    have hb : ((c.toNat : Int) == 124) = false := bne_u8 c 124 (by omega) h124
    clear h124
    cases ho : opc c
    · rw [ho] at hq3
      have hq4 : q = 0 := hq3
      subst hq4
      clear hq3
      go_enter Tryz.func91, Tryz.ntmps91
      go_wp2_with fail
      refine (peekR0 hs hat hrd).mono ?_; rintro e w' ⟨rfl, n1, rfl⟩
      rw [hc]
      go_wp2_with fail
      refine (peekR0 hs hat (hrd.drewN n1)).mono ?_; rintro e w' ⟨rfl, n2, rfl⟩
      rw [hc]
      go_wp2_with fail
      refine (op_any c _).mono ?_; rintro e w' ⟨rfl, rfl⟩
      rw [ho]
      go_wp2
      go_ret
      exact ⟨ret1 (by rw [Nat.add_zero, ext_nil]; rfl), hrd.drewN _, (Mv.refl _ _).drewN _⟩
    · rw [ho, if_pos rfl] at hq3
      cases hd2 : opc d
      · rw [hd2] at hq3
        have hq4 : q = 1 := hq3
        subst hq4
        have hsum : IntKind.i64.wrap ((at_ : Int) + 1) = (at_ : Int) + 1 := IntWalk.i64_in _ (by omega)
        have hsub : IntKind.i64.wrap ((at_ : Int) + 1 - 1) = (at_ : Int) := by rw [show (at_ : Int) + 1 - 1 = (at_ : Int) by omega]; exact IntWalk.i64_in _ (by omega)
        have hsub' : IntKind.i64.wrap (at_ : Int) = (at_ : Int) := IntWalk.i64_in _ (by omega)
        have hs1 : (at_ : Int) + 1 ≤ (s.size : Int) := by omega
        have hs0 : (0 : Int) ≤ (at_ : Int) + 1 := by omega
        have hsn : ((at_ : Int) + 1).toNat = at_ + 1 := by omega
        have hle2 : (at_ : Int) ≤ (at_ : Int) + 1 := by omega
        have hcast : ((at_ + 1 : Nat) : Int) = (at_ : Int) + 1 := by omega
        have hS := fun n => (hrd.drewN n).set_ (at_ + 1)
        rw [hcast] at hS
        clear hq3
        go_enter Tryz.func91, Tryz.ntmps91
        go_wp2_with fail
        refine (peekR0 hs hat hrd).mono ?_; rintro e w' ⟨rfl, n1, rfl⟩
        rw [hc]
        go_wp2_with fail
        refine (peekR0 hs hat (hrd.drewN n1)).mono ?_; rintro e w' ⟨rfl, n2, rfl⟩
        rw [hc]
        go_wp2_with fail
        refine (op_any c _).mono ?_; rintro e w' ⟨rfl, rfl⟩
        rw [ho]
        go_wp2_with fail
        refine (peekR1 hs hat (hrd.drewN _)).mono ?_; rintro e w' ⟨rfl, n3, rfl⟩
        rw [hd']
        go_wp2_with fail
        refine (op_any d _).mono ?_; rintro e w' ⟨rfl, rfl⟩
        rw [hd2]
        go_wp2
        have HS := hS (n1 + n2 + n3)
        have HM := ((Mv.refl b w).drewN (n1 + n2 + n3)).set_ 1 (.int .i64 ((at_ : Int) + 1))
        obtain ⟨W, hW⟩ : ∃ W, (w.drewN (n1 + n2 + n3)).setCell ⟨b, 1, none⟩ (.int .i64 ((at_ : Int) + 1)) = W := ⟨_, rfl⟩
        rw [hW] at HS HM ⊢
        have e0 := HS.c0
        have e1 := HS.c1
        rw [hcast] at e1
        clear hW
        go_quiet (fail)
        go_wp2
        go_ret
        exact ⟨rfl, HS.drewN _, HM.drewN _⟩
      · by_cases h45 : d = 45
        · have hq4 : q = 1 := by rw [hq3, hd2, h45]; rfl
          subst hq4
          have hbd : ((d.toNat : Int) == 45) = true := by rw [h45]; rfl
          have hbd2 : ((d.toNat : Int) != 45) = false := by rw [h45]; rfl
          clear h45
          have hsum : IntKind.i64.wrap ((at_ : Int) + 1) = (at_ : Int) + 1 := IntWalk.i64_in _ (by omega)
          have hsub : IntKind.i64.wrap ((at_ : Int) + 1 - 1) = (at_ : Int) := by rw [show (at_ : Int) + 1 - 1 = (at_ : Int) by omega]; exact IntWalk.i64_in _ (by omega)
          have hsub' : IntKind.i64.wrap (at_ : Int) = (at_ : Int) := IntWalk.i64_in _ (by omega)
          have hs1 : (at_ : Int) + 1 ≤ (s.size : Int) := by omega
          have hs0 : (0 : Int) ≤ (at_ : Int) + 1 := by omega
          have hsn : ((at_ : Int) + 1).toNat = at_ + 1 := by omega
          have hle2 : (at_ : Int) ≤ (at_ : Int) + 1 := by omega
          have hcast : ((at_ + 1 : Nat) : Int) = (at_ : Int) + 1 := by omega
          have hS := fun n => (hrd.drewN n).set_ (at_ + 1)
          rw [hcast] at hS
          clear hq3
          go_enter Tryz.func91, Tryz.ntmps91
          go_wp2_with fail
          refine (peekR0 hs hat hrd).mono ?_; rintro e w' ⟨rfl, n1, rfl⟩
          rw [hc]
          go_wp2_with fail
          refine (peekR0 hs hat (hrd.drewN n1)).mono ?_; rintro e w' ⟨rfl, n2, rfl⟩
          rw [hc]
          go_wp2_with fail
          refine (op_any c _).mono ?_; rintro e w' ⟨rfl, rfl⟩
          rw [ho]
          go_wp2_with fail
          refine (peekR1 hs hat (hrd.drewN _)).mono ?_; rintro e w' ⟨rfl, n3, rfl⟩
          rw [hd']
          go_wp2_with fail
          refine (op_any d _).mono ?_; rintro e w' ⟨rfl, rfl⟩
          rw [hd2]
          go_wp2_with fail
          refine (peekR1 hs hat (hrd.drewN _)).mono ?_; rintro e w' ⟨rfl, n4, rfl⟩
          rw [hd']
          go_wp2
          have HS := hS (n1 + n2 + n3 + n4)
          have HM := ((Mv.refl b w).drewN (n1 + n2 + n3 + n4)).set_ 1 (.int .i64 ((at_ : Int) + 1))
          obtain ⟨W, hW⟩ : ∃ W, (w.drewN (n1 + n2 + n3 + n4)).setCell ⟨b, 1, none⟩ (.int .i64 ((at_ : Int) + 1)) = W := ⟨_, rfl⟩
          rw [hW] at HS HM ⊢
          have e0 := HS.c0
          have e1 := HS.c1
          rw [hcast] at e1
          clear hW
          go_quiet (fail)
          go_wp2
          go_ret
          exact ⟨rfl, HS.drewN _, HM.drewN _⟩
        · have hq4 : q = 2 := by rw [hq3, hd2]; simp [h45]
          subst hq4
          have hbd : ((d.toNat : Int) == 45) = false := bne_u8 d 45 (by omega) h45
          have hbd2 : ((d.toNat : Int) != 45) = true := by simp [bne, hbd]
          clear h45
          have hsum : IntKind.i64.wrap ((at_ : Int) + 2) = (at_ : Int) + 2 := IntWalk.i64_in _ (by omega)
          have hsub : IntKind.i64.wrap ((at_ : Int) + 2 - 2) = (at_ : Int) := by rw [show (at_ : Int) + 2 - 2 = (at_ : Int) by omega]; exact IntWalk.i64_in _ (by omega)
          have hsub' : IntKind.i64.wrap (at_ : Int) = (at_ : Int) := IntWalk.i64_in _ (by omega)
          have hs1 : (at_ : Int) + 2 ≤ (s.size : Int) := by omega
          have hs0 : (0 : Int) ≤ (at_ : Int) + 2 := by omega
          have hsn : ((at_ : Int) + 2).toNat = at_ + 2 := by omega
          have hle2 : (at_ : Int) ≤ (at_ : Int) + 2 := by omega
          have hcast : ((at_ + 2 : Nat) : Int) = (at_ : Int) + 2 := by omega
          have hS := fun n => (hrd.drewN n).set_ (at_ + 2)
          rw [hcast] at hS
          clear hq3
          go_enter Tryz.func91, Tryz.ntmps91
          go_wp2_with fail
          refine (peekR0 hs hat hrd).mono ?_; rintro e w' ⟨rfl, n1, rfl⟩
          rw [hc]
          go_wp2_with fail
          refine (peekR0 hs hat (hrd.drewN n1)).mono ?_; rintro e w' ⟨rfl, n2, rfl⟩
          rw [hc]
          go_wp2_with fail
          refine (op_any c _).mono ?_; rintro e w' ⟨rfl, rfl⟩
          rw [ho]
          go_wp2_with fail
          refine (peekR1 hs hat (hrd.drewN _)).mono ?_; rintro e w' ⟨rfl, n3, rfl⟩
          rw [hd']
          go_wp2_with fail
          refine (op_any d _).mono ?_; rintro e w' ⟨rfl, rfl⟩
          rw [hd2]
          go_wp2_with fail
          refine (peekR1 hs hat (hrd.drewN _)).mono ?_; rintro e w' ⟨rfl, n4, rfl⟩
          rw [hd']
          go_wp2
          have HS := hS (n1 + n2 + n3 + n4)
          have HM := ((Mv.refl b w).drewN (n1 + n2 + n3 + n4)).set_ 1 (.int .i64 ((at_ : Int) + 2))
          obtain ⟨W, hW⟩ : ∃ W, (w.drewN (n1 + n2 + n3 + n4)).setCell ⟨b, 1, none⟩ (.int .i64 ((at_ : Int) + 2)) = W := ⟨_, rfl⟩
          rw [hW] at HS HM ⊢
          have e0 := HS.c0
          have e1 := HS.c1
          rw [hcast] at e1
          clear hW
          go_quiet (fail)
          go_wp2
          go_ret
          exact ⟨rfl, HS.drewN _, HM.drewN _⟩
end Lx
end Go.Proofs.YthdigbkcffihkaaGreatDoor
