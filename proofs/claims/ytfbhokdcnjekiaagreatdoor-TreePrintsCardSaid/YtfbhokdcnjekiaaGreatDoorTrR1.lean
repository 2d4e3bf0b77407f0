/- The reference's Name, names, holed, literal, body. -/
import Derived.Test.YtfbhokdcnjekiaaGreatDoorTrWa
import Derived.Test.YtfbhokdcnjekiaaGreatDoorLxRM2
set_option linter.unusedVariables false
namespace Go.Proofs.YtfbhokdcnjekiaaGreatDoor
open Go.RowKit
namespace Tr
open Bs Sm
theorem rarity_all (s : Bytes) (w : World) : Calls Tryz.prog 34 #[strV s] w (Done (.int .i64 (Lx.arityL s)) w) := by
 unfold strV
 have hsz : (⟨s.toArray⟩ : ByteArray).size = s.length := rfl
 by_cases h64 : 64 < s.length
 · have e : Lx.arityL s = -1 := by
    unfold Lx.arityL
    rw [if_neg (by intro h; rw [h] at h64; simp at h64), if_pos h64]
   rw [e]
   obtain ⟨b, hb⟩ : ∃ b : ByteArray, (⟨s.toArray⟩ : ByteArray) = b := ⟨_, rfl⟩
   rw [hb] at hsz ⊢
   have hzb : ((b.size : Int) == 0) = false := by rw [beq_eq_false_iff_ne]; omega
   have h64i : (64 : Int) < (b.size : Int) := by omega
   clear hsz h64 e hb
   go_enter Tryz.func34, Tryz.ntmps34
   go_wp2_with fail
   go_ret
   exact ⟨rfl, rfl⟩
 · exact Lx.rarity_any (s := ⟨s.toArray⟩) (w := w) (by rw [hsz]; omega)
theorem rname_any (s : Bytes) (w : World) : Calls Tryz.prog 74 #[strV s] w (Done (.bool (isName s)) w) := by
 have HA := fun w' => rarity_all s w'
 unfold isName
 obtain ⟨n, hn⟩ : ∃ n, Lx.arityL s = n := ⟨_, rfl⟩
 rw [hn] at HA ⊢
 replace HA := Lib.hid HA
 clear hn
 go_enter Tryz.func74, Tryz.ntmps74
 go_wp2_with fail
 refine (HA.out _).mono ?_; rintro e w1 ⟨rfl, rfl⟩
 go_wp2_with fail
 go_ret
 exact ⟨by simp, rfl⟩
set_option maxRecDepth 100000 in
set_option maxHeartbeats 1600000 in
theorem rnames_any {S : Nat → Prop} (v : Value) (l : List Bytes) (w : World) (hl : Rd S strV w v l) : Calls Tryz.prog 35 #[v] w (Done (.bool (l.all isName)) w) := by
 obtain ⟨a, c, rfl, hc, hm⟩ := hl.form
 obtain ⟨n, hn⟩ : ∃ n, l.length = n := ⟨_, rfl⟩
 have HN := Lib.hid hn
 have hn2 : n ≤ maxLen := by omega
 unfold maxLen at hn2
 rw [hn] at hl ⊢
 have HL := Lib.hid hl
 clear hl hn
 go_enter Tryz.func35, Tryz.ntmps35
 go_wp2_with fail
 go_loopw [3] (fun y wr => ∃ k : Nat, y = .int .i64 (k : Int) ∧ k ≤ n ∧ w = wr ∧ Hid (l.all isName = (l.drop k).all isName)) (fun y _ => n - (intOf y).toNat)
 case atStart => exact ⟨0, rfl, Nat.zero_le _, rfl, Lib.hid (by rw [List.drop_zero])⟩
 case round =>
  obtain ⟨k, rfl, hk, rfl, hp⟩ := hrel
  by_cases hkn : k < n
  · have hdec : decide ((k : Int) < (n : Int)) = true := by simpa using hkn
    have hkw : IntKind.i64.wrap ((k : Int) + 1) = (k : Int) + 1 := IntWalk.i64_in _ (by omega)
    obtain ⟨gb, off, x, rfl, hx, hgb, hcx⟩ := HL.out.at_ k hkn
    have hdr : l.drop k = x :: l.drop (k + 1) := by
     have hk := List.getElem?_eq_some_iff.1 hx
     rw [List.drop_eq_getElem_cons hk.1, hk.2]
    have hp2 := hp.out
    rw [hdr, List.all_cons] at hp2
    obtain ⟨q, hq⟩ : ∃ q, isName x = q := ⟨_, rfl⟩
    have HX := fun w' => rname_any x w'
    rw [hq] at HX hp2
    replace HX := Lib.hid HX
    have HP := Lib.hid hp2
    clear hx hdr hp2 hp hq
    go_wp2_with fail
    refine (HX.out _).mono ?_; rintro e w1 ⟨rfl, rfl⟩
    cases q with
    | false =>
     go_wp2_with fail
     go_ret
     exact ⟨by rw [HP.out]; simp, rfl⟩
    | true =>
     have HP2 := Lib.hid (HP.out.trans (Bool.true_and _))
     clear HP
     go_wp2_with fail
     exact ⟨⟨k + 1, by simp, by omega, by trivial, HP2⟩, by simp only [intOf]; omega⟩
  · obtain rfl : k = n := by omega
    have hdec : decide ((k : Int) < (k : Int)) = false := by simp
    have HA : Hid (l.all isName = true) := Lib.hid (by rw [hp.out, List.drop_eq_nil_of_le (by rw [HN.out]; exact Nat.le_refl _)]; rfl)
    clear hp
    go_wp2_with fail
    go_ret
    exact ⟨by simp [HA.out], rfl⟩
section
variable {x : Nd} {kv nv : Value} {w : World}
set_option maxRecDepth 100000 in
set_option maxHeartbeats 1600000 in
theorem rliteral_any : Calls Tryz.prog 105 #[ndV x kv nv] w (Back (.bool (litB x)) w) := by
 unfold litB ndV
 obtain ⟨nm, hnm⟩ : ∃ s, x.name = s := ⟨_, rfl⟩
 obtain ⟨K, hK⟩ : ∃ s, x.kind = s := ⟨_, rfl⟩
 rw [hnm, hK]
 clear hnm hK
 go_enter Tryz.func105, Tryz.ntmps105
 go_wp2_with fail
 all_goals go_ret
 all_goals refine ⟨?_, (Below.refl _ _).alloc (Nat.le_refl _) _⟩
 all_goals congr 2
 all_goals (simp_all <;> omega)
theorem rholed_any {S : Nat → Prop} (hk : Tree S w kv x.kids) : Calls Tryz.prog 76 #[ndV x kv nv] w (Back (.bool (holed x)) w) := by
 obtain ⟨a, c, rfl, hc, hm⟩ := hk.form
 obtain ⟨K, hK⟩ : ∃ s, x.kind = s := ⟨_, rfl⟩
 unfold holed ndV
 rw [hK]
 by_cases h0 : x.kids = []
 · rw [h0]
   clear hk
   go_enter Tryz.func76, Tryz.ntmps76
   go_wp2_with fail
   all_goals go_ret
   all_goals refine ⟨?_, (Below.refl _ _).alloc (Nat.le_refl _) _⟩
   all_goals congr 2
   all_goals (simp_all)
 · obtain ⟨y, l, hyl⟩ : ∃ y l, x.kids = y :: l := by
    cases h : x.kids with
    | nil => exact absurd h h0
    | cons y l => exact ⟨y, l, rfl⟩
   obtain ⟨gb, off, z, kv', nv', rfl, hz, hgb, -, ⟨c0, c1, c2, c3, c4, c5⟩, -, -⟩ := hk.at_ 0 (by rw [hyl]; simp)
   rw [hyl] at hz hc ⊢
   cases hz
   have hn : (y :: l).length = l.length + 1 := rfl
   rw [hn] at hc ⊢
   obtain ⟨n, hnn⟩ : ∃ n, l.length = n := ⟨_, rfl⟩
   rw [hnn] at hc ⊢
   have n1 : ¬ gb = w.heap.size := by omega
   have n2 : ¬ w.heap.size = gb := by omega
   obtain ⟨Y, hY⟩ : ∃ s, y.kind = s := ⟨_, rfl⟩
   simp only [hY] at c0 ⊢
   simp only [Nat.zero_mul, Nat.add_zero] at c0
   unfold maxLen at hm
   have hpos : decide ((0 : Int) < (n : Int) + 1) = true := by rw [decide_eq_true_eq]; omega
   clear c1 c2 c3 c4 c5 hk hyl hnn hn h0
   go_enter Tryz.func76, Tryz.ntmps76
   go_wp2_with fail
   all_goals go_ret
   all_goals refine ⟨?_, (Below.refl _ _).alloc (Nat.le_refl _) _⟩
   all_goals congr 2
   all_goals (simp_all)
end
set_option maxRecDepth 100000 in
set_option maxHeartbeats 1600000 in
theorem rbody_any (v : Value) (l : List Nd) (w : World) (hl : Tree (fun _ => True) w v l) : Calls Tryz.prog 36 #[v] w (Done (.bool (bodyB l)) w) := by
 obtain ⟨a, c, rfl, hc, hm⟩ := hl.form
 obtain ⟨n, hn⟩ : ∃ n, l.length = n := ⟨_, rfl⟩
 have HN := Lib.hid hn
 have hn2 : n ≤ maxLen := by omega
 unfold maxLen at hn2
 rw [hn] at hl ⊢
 have HL := Lib.hid hl
 clear hl hn
 go_enter Tryz.func36, Tryz.ntmps36
 go_wp2_with fail
 go_loopw [3] (fun y wr => ∃ k : Nat, y = .int .i64 (k : Int) ∧ k ≤ n ∧ w = wr ∧ Hid (bodyB l = bodyB (l.drop k))) (fun y _ => n - (intOf y).toNat)
 case atStart => exact ⟨0, rfl, Nat.zero_le _, rfl, Lib.hid rfl⟩
 case round =>
  obtain ⟨k, rfl, hk, rfl, hp⟩ := hrel
  by_cases hkn : k < n
  · have hdec : decide ((k : Int) < (n : Int)) = true := by simpa using hkn
    have hkw : IntKind.i64.wrap ((k : Int) + 1) = (k : Int) + 1 := IntWalk.i64_in _ (by omega)
    obtain ⟨gb, off, x, ka, kc, na, nc, rfl, hx, hgb, -, ⟨c0, -, -, -, -, -⟩, hkt, hnt⟩ := HL.out.nth k hkn
    have hbd := body_drop l k x hx
    rw [HN.out] at hbd
    obtain ⟨K, hK⟩ : ∃ s, x.kind = s := ⟨_, rfl⟩
    rw [hK] at hbd c0
    obtain ⟨r, hr⟩ : ∃ r, bodyB (l.drop (k + 1)) = r := ⟨_, rfl⟩
    rw [hr] at hbd
    have HR := Lib.hid hr
    have HD := Lib.hid (hp.out.trans hbd)
    obtain ⟨q, hq⟩ : ∃ q, bodyB l = q := ⟨_, rfl⟩
    rw [hq] at HD ⊢
    clear hx hkt hnt hbd hp hr hK hq
    by_cases h11 : K = 11
    · subst h11
      go_wp2_with fail
      all_goals go_ret
      exact ⟨by rw [HD.out]; simp, rfl⟩
    · by_cases h10 : K = 10
      · subst h10
        by_cases hk1 : (k : Int) + 1 < (n : Int)
        · go_wp2_with fail
          all_goals go_ret
          exact ⟨by rw [HD.out]; have : decide (k + 1 < n) = true := by (rw [decide_eq_true_eq]; omega)
                    rw [this]; simp, rfl⟩
        · have HE : Hid (q = r) := Lib.hid (by rw [HD.out]; have : decide (k + 1 < n) = false := by (rw [decide_eq_false_iff_not]; omega)
                                               rw [this]; simp)
          clear HD
          go_wp2_with fail
          exact ⟨⟨k + 1, by simp, by omega, by trivial, Lib.hid (by rw [HE.out, HR.out])⟩, by simp only [intOf]; omega⟩
      · have HE : Hid (q = r) := Lib.hid (by rw [HD.out]; simp [h10, h11])
        clear HD
        go_wp2_with fail
        exact ⟨⟨k + 1, by simp, by omega, by trivial, Lib.hid (by rw [HE.out, HR.out])⟩, by simp only [intOf]; omega⟩
  · obtain rfl : k = n := by omega
    have hdec : decide ((k : Int) < (k : Int)) = false := by simp
    have HA : Hid (bodyB l = true) := Lib.hid (by rw [hp.out, List.drop_eq_nil_of_le (by rw [HN.out]; exact Nat.le_refl _)]; rfl)
    clear hp
    go_wp2_with fail
    go_ret
    exact ⟨by simp [HA.out], rfl⟩
end Tr
end Go.Proofs.YtfbhokdcnjekiaaGreatDoor
