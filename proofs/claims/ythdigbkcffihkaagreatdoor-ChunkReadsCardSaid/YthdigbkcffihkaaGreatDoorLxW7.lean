/- Package lex, the walk, 7: skip. -/
import Derived.Test.YthdigbkcffihkaaGreatDoorLxW6
import Derived.Test.YthdigbkcffihkaaGreatDoorLxSk
set_option linter.unusedVariables false
namespace Go.Proofs.YthdigbkcffihkaaGreatDoor
open Go.RowKit
namespace Lx
/-- It panics with a fault; nothing but the reader's block has turned. -/
def Fell (b : Nat) (a n : Int) (w : World) (e : Ending) (w' : World) : Prop := e = .panicked [{ v := flt a n, recovered := false }] ∧ Mv b w w'
/-- What skip does where it began at at_. -/
def Skipped (b : Nat) (s : ByteArray) (at_ : Nat) (x : Except Nat Nat) (w : World) (e : Ending) (w' : World) : Prop :=
  match x with
  | .ok n => Turn RT b s (at_ + n) (.tuple #[]) w e w'
  | .error n => Fell b ((at_ + n : Nat) : Int) 4 w e w'
variable {b at_ : Nat} {s : ByteArray} {w : World}
theorem sk_base (r : Bytes) (p : Nat) : sk none p r = match sk none 0 r with | .ok x => .ok (x + p) | .error x => .error (x + p) := by
  have := sk_shift r none 0 p
  simp only [Option.map_none, Nat.zero_add] at this
  rw [this]
  cases sk none 0 r <;> rfl
set_option maxHeartbeats 4000000 in
theorem skip_any (hs : s.size ≤ 140737488351232) (hat : at_ ≤ s.size) (hrd : Rd RT b s at_ w) :
    Calls Tryz.prog 95 #[.pointer (some ⟨b, 0, none⟩)] w (Skipped b s at_ (sk none 0 (s.data.toList.drop at_)) w) := by
  obtain ⟨E, hE⟩ : ∃ E, sk none at_ (s.data.toList.drop at_) = E := ⟨_, rfl⟩
  have hEE : Skipped b s at_ (sk none 0 (s.data.toList.drop at_)) w = Skipped b s 0 E w := by
    rw [← hE, sk_base _ at_]
    cases sk none 0 (s.data.toList.drop at_) with
    | ok x =>
      funext e w'
      show Turn RT b s (at_ + x) (.tuple #[]) w e w' = Turn RT b s (0 + (x + at_)) (.tuple #[]) w e w'
      rw [show 0 + (x + at_) = at_ + x by omega]
    | error x =>
      funext e w'
      show Fell b ((at_ + x : Nat) : Int) 4 w e w' = Fell b ((0 + (x + at_) : Nat) : Int) 4 w e w'
      rw [show 0 + (x + at_) = at_ + x by omega]
  rw [hEE]
  clear hEE
  go_enter Tryz.func95, Tryz.ntmps95
  go_wp2
  go_loopw [2] (fun e wr => ∃ k : Nat, at_ ≤ k ∧ k ≤ s.size ∧ sk none k (s.data.toList.drop k) = E ∧ Rd RT b s k wr ∧ Mv b w wr) (fun _ wr => s.size - atIn b wr)
  case atStart => exact ⟨at_, Nat.le_refl _, hat, hE, hrd, Mv.refl _ _⟩
  case round =>
    obtain ⟨k, hk1, hk2, hkE, hr, hmv⟩ := hrel
    have hat2 := hr.at_
    obtain ⟨m, hm⟩ : ∃ m, ((s.data.toList.drop k).takeWhile blank).length = m := ⟨_, rfl⟩
    have hrnd := sk_round (s.data.toList.drop k) k m hm
    rw [List.drop_drop, List.drop_drop, List.drop_drop] at hrnd
    have H2 : k + m ≤ s.size := by rw [← hm]; exact tw_fit blank s k hk2
    have H3 : ∀ j, (h : j < s.size) → k ≤ j → j < k + m → blank s[j] = true := fun j h h1 h2 => tw_in blank s k j h h1 (by rw [hm]; exact h2)
    have H4 : (h : k + m < s.size) → blank s[k + m] = false := by subst hm; exact fun h => tw_out blank s k h
    have HC := run_blank b k (k + m) s wr hs (by omega) H2 H3 H4 hr
    obtain ⟨z, hz⟩ : ∃ z, k + m = z := ⟨_, rfl⟩
    rw [hz] at HC H2 hrnd
    clear H3 H4
    have HC := Lib.hid HC
    obtain ⟨c, hc⟩ : ∃ c, hd (s.data.toList.drop z) 0 = c := ⟨_, rfl⟩
    rw [hc] at hrnd
    obtain ⟨h1, h2, h3⟩ := hrnd
    by_cases h34 : c = 34
    · have hb : ((c.toNat : Int) != 34) = false := by rw [h34]; rfl
      have hlt : z < s.size := by
        rcases Nat.lt_or_ge z s.size with h' | h'
        · exact h'
        · have := hd_past s z 0 h'; rw [hc, h34] at this; exact absurd this (by decide)
      have hx : (s.extract (z + 1) s.size).data.toList = s.data.toList.drop (z + 1) := by
        rw [ext_list]; congr 1; exact List.take_of_length_le (Nat.le_refl _)
      obtain ⟨x, hx2⟩ : ∃ x, s.extract (z + 1) s.size = x := ⟨_, rfl⟩
      have HI := fun v => Tryz.strings_IndexByte x 34 v
      rw [hx2] at hx
      rw [hx] at HI
      have hg := idx_at 34 (s.data.toList.drop (z + 1))
      have hc34 : (34 : Int).toNat.toUInt8 = 34 := rfl
      rw [hc34] at HI
      have hmz : s.data.toList.drop (k + (m + 1)) = s.data.toList.drop (z + 1) := by rw [← hz]; rfl
      rw [hmz] at h2 h3
      obtain ⟨i, hi⟩ : ∃ i, Lib.indexByte (s.data.toList.drop (z + 1)) 34 = i := ⟨_, rfl⟩
      rw [hi] at HI hg h2 h3
      rw [dlen] at hg
      have HI := Lib.hid HI
      have hsum : IntKind.i64.wrap ((z : Int) + 1) = (z : Int) + 1 := IntWalk.i64_in _ (by omega)
      have hs0 : (0 : Int) ≤ (z : Int) + 1 := by omega
      have hs1 : (z : Int) + 1 ≤ (s.size : Int) := by omega
      have hsn : ((z : Int) + 1).toNat = z + 1 := by omega
      have hq : ∀ v : World, Calls Tryz.prog 81 #[.string x, .int .u8 34] v fun e w' => e = .returned (.int .i64 i) ∧ w' = v := HI.out
      have hq := Lib.hid hq
      have hss : (s.size : Int).toNat = s.size := by omega
      by_cases hneg : i = -1
      · have hE2 := h2 h34 hneg
        subst hneg
        rw [hkE] at hE2
        subst hE2
        clear h1 h2 h3 hkE hE hg hx hi
        go_wp2_with fail
        refine HC.out.mono ?_; rintro e w' ⟨rfl, hr2, hm2⟩
        go_wp2_with fail
        refine (peekR0 hs H2 hr2).mono ?_; rintro e w3 ⟨rfl, n1, hw3⟩
        have hr3 : Rd RT b s z w3 := by rw [hw3]; exact hr2.drewN _
        have hm3 : Mv b w w3 := by rw [hw3]; exact (hmv.trans hm2).drewN _
        clear hw3
        rw [hc]
        have d0 := hr3.c0
        have d1 := hr3.c1
        go_wp2
        go_quiet (first | (go_at_call 81; exact Calls.quiet_of_same (hq.out _)))
        go_wp2_with fail
        refine (stop_any _ 4 _).mono ?_; rintro e w'' ⟨rfl, rfl⟩
        go_wp2
        refine ⟨rfl, ?_, hm3.drewN _⟩
        rw [Nat.zero_add]
      · have hE2 := h3 h34 hneg
        obtain ⟨j, hj⟩ : ∃ j : Nat, i = (j : Int) := ⟨i.toNat, by omega⟩
        subst hj
        have hn0 : ¬ (j : Int) < 0 := by omega
        have hjs : z + j + 2 ≤ s.size := by omega
        have hjn : (j : Int).toNat = j := by omega
        have hsum2 : IntKind.i64.wrap ((j : Int) + 2) = (j : Int) + 2 := IntWalk.i64_in _ (by omega)
        have hsum3 : IntKind.i64.wrap ((z : Int) + ((j : Int) + 2)) = (z : Int) + ((j : Int) + 2) := IntWalk.i64_in _ (by omega)
        rw [hjn, hkE, show k + (m + j + 2) = z + j + 2 by omega] at hE2
        have HE := Lib.hid hE2
        clear h1 h2 h3 hkE hE hg hx hi hE2
        go_wp2_with fail
        refine HC.out.mono ?_; rintro e w' ⟨rfl, hr2, hm2⟩
        go_wp2_with fail
        refine (peekR0 hs H2 hr2).mono ?_; rintro e w3 ⟨rfl, n1, hw3⟩
        have hr3 : Rd RT b s z w3 := by rw [hw3]; exact hr2.drewN _
        have hm3 : Mv b w w3 := by rw [hw3]; exact (hmv.trans hm2).drewN _
        clear hw3
        rw [hc]
        have d0 := hr3.c0
        have d1 := hr3.c1
        have df := hr3.fz
        go_wp2
        go_quiet (first | (go_at_call 81; exact Calls.quiet_of_same (hq.out _)))
        go_wp2
        have hS := (hr3.drewN nq).set_ (z + j + 2)
        have hM := (hm3.drewN nq).set_ 1 (.int .i64 ((z : Int) + ((j : Int) + 2)))
        have hcast : ((z + j + 2 : Nat) : Int) = (z : Int) + ((j : Int) + 2) := by omega
        rw [hcast] at hS
        refine ⟨⟨z + j + 2, by omega, hjs, ?_, hS, hM⟩, ?_⟩
        · rw [← hz]; rw [← hz] at HE; exact HE.out.symm
        · rw [hS.at_, hat2]; omega
    · have hb : ((c.toNat : Int) != 34) = true := by
        simp [bne, show ((c.toNat : Int) == 34) = false from bne_u8 c 34 (by omega) h34]
      have hE2 := h1 h34
      rw [hkE] at hE2
      subst hE2
      clear h1 h2 h3 hkE hE
      go_wp2_with fail
      refine HC.out.mono ?_; rintro e w' ⟨rfl, hr2, hm2⟩
      go_wp2_with fail
      refine (peekR0 hs H2 hr2).mono ?_; rintro e w'' ⟨rfl, n1, rfl⟩
      rw [hc]
      go_wp2
      refine bodyPost_ret (results_none rfl _ _ _) rfl ?_
      exact ⟨rfl, by rw [Nat.zero_add]; exact hr2.drewN _, (hmv.trans hm2).drewN _⟩
end Lx
end Go.Proofs.YthdigbkcffihkaaGreatDoor
