/- Package lex, the walk, 6: keywords. -/
import Derived.Test.YthdigbkcffihkaaGreatDoorLxW5
set_option linter.unusedVariables false
namespace Go.Proofs.YthdigbkcffihkaaGreatDoor
open Go.RowKit
namespace Lx
theorem kwF_fuel : ∀ (f g : Nat) (r : Bytes), r.length < f → r.length < g → kwF f r = kwF g r
  | 0, _, _, h, _ => absurd h (by omega)
  | _ + 1, 0, _, _, h => absurd h (by omega)
  | f + 1, g + 1, r, h1, h2 => by
    simp only [kwF]
    by_cases hn : nameL r = 0
    · rw [if_pos hn, if_pos hn]
    · rw [if_neg hn, if_neg hn]
      have hle := nameL_le r
      rw [kwF_fuel f g (r.drop (nameL r + 1)) (by rw [List.length_drop]; omega) (by rw [List.length_drop]; omega)]
theorem kwL_step (r : Bytes) : kwL r = if nameL r = 0 then 0 else if colonB (r.drop (nameL r)) then nameL r + 1 + kwL (r.drop (nameL r + 1)) else 0 := by
  have hle := nameL_le r
  by_cases hn : nameL r = 0
  · unfold kwL; simp only [kwF]; rw [if_pos hn, if_pos hn]
  · rw [if_neg hn]
    have : kwL r = if colonB (r.drop (nameL r)) then nameL r + 1 + kwF r.length (r.drop (nameL r + 1)) else 0 := by
      unfold kwL; simp only [kwF]; rw [if_neg hn]
    rw [this]
    unfold kwL
    rw [kwF_fuel r.length _ (r.drop (nameL r + 1)) (by rw [List.length_drop]; omega) (Nat.lt_succ_self _)]
theorem ext_list (s : ByteArray) (a z : Nat) : (s.extract a z).data.toList = (s.data.toList.take z).drop a := by
  rw [ByteArray.data_extract, Array.toList_extract, List.extract_eq_take_drop, List.drop_take]
theorem ext_some (s : ByteArray) (a z : Nat) (h : a < z) (hz : z ≤ s.size) : ¬ (s.extract a z).toList = [] := by
  rw [ByteArray.toList_eq, ext_list]
  intro h'
  have := congrArg List.length h'
  rw [List.length_drop, List.length_take] at this
  have h2 : s.data.toList.length = s.size := rfl
  simp only [List.length_nil] at this
  omega
theorem ext_none (s : ByteArray) (a : Nat) : (s.extract a a).toList = [] := by
  rw [ByteArray.toList_eq, ext_list]
  exact List.drop_eq_nil_of_le (by rw [List.length_take]; omega)
variable {b at_ : Nat} {s : ByteArray} {w : World}
set_option maxHeartbeats 4000000 in
theorem keywords_any (hs : s.size ≤ 140737488351232) (hat : at_ ≤ s.size) (hrd : Rd RT b s at_ w) :
    Calls Tryz.prog 89 #[.pointer (some ⟨b, 0, none⟩)] w (Turn RT b s (at_ + kwL (s.data.toList.drop at_)) (.string (s.extract at_ (at_ + kwL (s.data.toList.drop at_)))) w) := by
  have c0 := hrd.c0
  have c1 := hrd.c1
  obtain ⟨E, hE⟩ : ∃ E, at_ + kwL (s.data.toList.drop at_) = E := ⟨_, rfl⟩
  rw [hE]
  go_enter Tryz.func89, Tryz.ntmps89
  go_wp2
  go_quiet (fail)
  go_wp2
  go_loopw [4] (fun e wr => ∃ k : Nat, e = .int .i64 (k : Int) ∧ at_ ≤ k ∧ k ≤ s.size ∧ k + kwL (s.data.toList.drop k) = E ∧ Rd RT b s k wr ∧ Mv b w wr) (fun _ wr => s.size - atIn b wr)
  case atStart => exact ⟨at_, rfl, Nat.le_refl _, hat, hE, hrd.drewN _, (Mv.refl _ _).drewN _⟩
  case round =>
    clear c0 c1
    obtain ⟨k, rfl, hk1, hk2, hkE, hr, hmv⟩ := hrel
    have hat2 := hr.at_
    have hst := kwL_step (s.data.toList.drop k)
    obtain ⟨n, hn⟩ : ∃ n, nameL (s.data.toList.drop k) = n := ⟨_, rfl⟩
    have hnle := nameL_le (s.data.toList.drop k)
    rw [dlen] at hnle
    have HC := name_any hs hk2 hr
    rw [hn] at hst hnle HC
    have hkn : k + n ≤ s.size := by omega
    rw [List.drop_drop, List.drop_drop] at hst
    obtain ⟨q, hq⟩ : ∃ q, colonB (s.data.toList.drop (k + n)) = q := ⟨_, rfl⟩
    rw [hq] at hst
    by_cases h0 : n = 0
    · subst h0
      have hEk : E = k := by rw [← hkE, hst]; rfl
      subst hEk
      clear hst hkE hE
      rw [Nat.add_zero] at HC
      have hx0 := ext_none s E
      obtain ⟨x, hx⟩ : ∃ x, s.extract E E = x := ⟨_, rfl⟩
      rw [hx] at HC hx0
      have hx1 : x.toList.isEmpty = true := by rw [hx0]; rfl
      have HX := Lib.hid hx
      clear hx
      have HC := Lib.hid HC
      go_wp2_with fail
      refine HC.out.mono ?_; rintro e w' ⟨rfl, hr2, hm2⟩
      have d0 := hr2.c0
      have d1 := hr2.c1
      have df := hr2.fz
      go_wp2
      go_ret
      exact ⟨rfl, hr2.set_ E, (hmv.trans hm2).set_ 1 _⟩
    · have hx0 := ext_some s k (k + n) (by omega) hkn
      rw [if_neg h0] at hst
      obtain ⟨x, hx⟩ : ∃ x, s.extract k (k + n) = x := ⟨_, rfl⟩
      rw [hx] at HC hx0
      have hx1 : x.toList.isEmpty = false := by cases hl : x.toList with | nil => exact absurd hl hx0 | cons _ _ => rfl
      have HC := Lib.hid HC
      have HD := fun (v : World) (hv : Rd RT b s (k + n) v) => colon_any hs hkn hv
      rw [hq] at HD
      have HD := Lib.hid HD
      clear hx
      cases q
      · have hEk : E = k := by rw [← hkE, hst]; rfl
        subst hEk
        clear hst hkE hE
        go_wp2_with fail
        refine HC.out.mono ?_; rintro e w' ⟨rfl, hr2, hm2⟩
        go_wp2_with fail
        refine (HD.out _ hr2).mono ?_; rintro e w'' ⟨rfl, hr3, hm3⟩
        rw [if_neg (by decide), Nat.add_zero] at hr3
        have d0 := hr3.c0
        have d1 := hr3.c1
        have df := hr3.fz
        go_wp2
        go_ret
        exact ⟨rfl, hr3.set_ E, ((hmv.trans hm2).trans hm3).set_ 1 _⟩
      · rw [if_pos rfl] at hst
        go_wp2_with fail
        refine HC.out.mono ?_; rintro e w' ⟨rfl, hr2, hm2⟩
        go_wp2_with fail
        refine (HD.out _ hr2).mono ?_; rintro e w'' ⟨rfl, hr3, hm3⟩
        have hr3 : Rd RT b s (k + n + 1) w'' := hr3
        have d1 := hr3.c1
        have hat3 := hr3.at_
        go_wp2
        have hrl := nameL_le (s.data.toList.drop k)
        have hcp := colon_pos _ hq
        rw [dlen] at hcp
        refine ⟨⟨k + n + 1, vint (by omega), by omega, by omega, ?_, hr3, (hmv.trans hm2).trans hm3⟩, ?_⟩
        · rw [show k + n + 1 = k + (n + 1) by omega]; omega
        · rw [hat3, hat2]; omega
end Lx
end Go.Proofs.YthdigbkcffihkaaGreatDoor
