/- Are two methods the same: plain, and both sides' walks (printed by gen_trsm.py). -/
import Derived.Test.YtfbhokdcnjekiaaGreatDoorTrWa
import Derived.Deep.QuietTactic
import Derived.BigQuiet
set_option linter.unusedVariables false
namespace Go.Proofs.YtfbhokdcnjekiaaGreatDoor
open Go.RowKit
namespace Tr
open Bs Sm
theorem below_dn {B : Nat} {a w : World} (h : Below B a w) (n : Nat) : Below B a (w.drewN n) := ⟨h.os, h.tape, h.output, h.size, h.block⟩
/-- Have nodes the same? -/
def sameL : List Nd → List Nd → Bool
  | [], [] => true
  | [], _ :: _ => false
  | _ :: _, [] => false
  | x :: a, y :: b => (x.kind == y.kind && decide (x.name = y.name) && x.num == y.num && decide (x.names = y.names) && sameL x.kids y.kids) && sameL a b
  termination_by l => SizeOf.sizeOf l
  decreasing_by all_goals (have := x.sz; simp; omega)
def sameN (x y : Nd) : Bool := x.kind == y.kind && decide (x.name = y.name) && x.num == y.num && decide (x.names = y.names) && sameL x.kids y.kids
theorem sameL_nil : sameL [] [] = true := by unfold sameL; rfl
theorem sameL_cons (x y : Nd) (a b : List Nd) : sameL (x :: a) (y :: b) = (sameN x y && sameL a b) := by rw [sameL]; rfl
theorem sameL_len : ∀ (a b : List Nd), sameL a b = true → a.length = b.length
  | [], [], _ => rfl
  | [], y :: b, h => by unfold sameL at h; cases h
  | x :: a, [], h => by unfold sameL at h; cases h
  | x :: a, y :: b, h => by
    rw [sameL_cons, Bool.and_eq_true] at h
    rw [List.length_cons, List.length_cons, sameL_len a b h.2]
theorem sameL_refl (l : List Nd) : sameL l l = true := by
  refine Nd.ind (P := fun l => sameL l l = true) sameL_nil ?_ l
  intro x l h1 h2
  rw [sameL_cons, h2]
  unfold sameN
  rw [h1]
  simp
def sameM (a b : Mt) : Bool := decide (a.name = b.name) && a.prim == b.prim && decide (a.params = b.params) && decide (a.temps = b.temps) && sameL a.body b.body
theorem sameM_refl (a : Mt) : sameM a a = true := by unfold sameM; rw [sameL_refl]; simp
set_option maxRecDepth 100000 in
set_option maxHeartbeats 1600000 in
theorem rsamenames_any {S S' : Nat → Prop} (a b : List Bytes) (va vb : Value) (w : World) (ha : Rd S strV w va a) (hb : Rd S' strV w vb b) :
    Calls Tryz.prog 52 #[va, vb] w (fun e w' => e = .returned (.bool (decide (a = b))) ∧ ∃ q, w' = w.drewN q) := by
  obtain ⟨aa, ac, rfl, ha1, ha2⟩ := ha.form
  obtain ⟨ba, bc, rfl, hb1, hb2⟩ := hb.form
  unfold maxLen at ha2 hb2
  obtain ⟨n, hn⟩ : ∃ n, a.length = n := ⟨_, rfl⟩
  obtain ⟨m, hm⟩ : ∃ n, b.length = n := ⟨_, rfl⟩
  rw [hn] at ha ha1
  rw [hm] at hb hb1
  rw [hn, hm]
  have HN := Lib.hid hn
  have HM := Lib.hid hm
  have HA := Lib.hid ha
  have HB := Lib.hid hb
  clear ha hb hn hm
  by_cases hnm : n = m
  case neg =>
    have b0 : ((n : Int) == (m : Int)) = false := beq_eq_false_iff_ne.2 (by omega)
    have b1 : ((n : Int) != (m : Int)) = true := by simp [bne, b0]
    have HD : Hid (decide (a = b) = false) := Lib.hid (decide_eq_false (fun h => by subst h; exact hnm (HN.out.symm.trans HM.out)))
    clear hnm
    go_enter Tryz.func52, Tryz.ntmps52
    go_wp2_with fail
    go_ret
    exact ⟨by rw [HD.out]; rfl, 0, rfl⟩
  subst hnm
  obtain ⟨Q, hQ⟩ : ∃ q, decide (a = b) = q := ⟨_, rfl⟩
  rw [hQ]
  have HQ : Hid (Q = decide (a.drop 0 = b.drop 0)) := Lib.hid (by rw [← hQ]; simp)
  clear hQ
  go_enter Tryz.func52, Tryz.ntmps52
  go_wp2_with fail
  go_loopw [5] (fun y wr => ∃ k : Nat, y = .int .i64 (k : Int) ∧ k ≤ n ∧ (∃ q, wr = w.drewN q) ∧ Hid (Q = decide (a.drop k = b.drop k))) (fun y _ => n - (intOf y).toNat)
  case atStart => exact ⟨0, rfl, Nat.zero_le _, ⟨0, rfl⟩, HQ⟩
  case round =>
    obtain ⟨k, rfl, hk, ⟨q, hq⟩, hp⟩ := hrel
    by_cases hkn : k < n
    · have hdec : decide ((k : Int) < (n : Int)) = true := by simpa using hkn
      have hkw : IntKind.i64.wrap ((k : Int) + 1) = (k : Int) + 1 := IntWalk.i64_in _ (by omega)
      have hbel : Below w.heap.size w wr := by rw [hq]; exact below_dn (Below.refl _ _) _
      obtain ⟨g1, o1, x, hx0, hx, hg1, hc1⟩ := (HA.out.below hbel).at_ k hkn
      obtain ⟨g2, o2, z, hz0, hz, hg2, hc2⟩ := (HB.out.below hbel).at_ k hkn
      subst hx0
      subst hz0
      unfold strV at hc1 hc2
      have e1 : a.drop k = x :: a.drop (k + 1) := by
        have hk := List.getElem?_eq_some_iff.1 hx
        rw [List.drop_eq_getElem_cons hk.1, hk.2]
      have e2 : b.drop k = z :: b.drop (k + 1) := by
        have hk := List.getElem?_eq_some_iff.1 hz
        rw [List.drop_eq_getElem_cons hk.1, hk.2]
      have hkn1 : (k : Int) < (n : Int) := by omega
      have hk0 : 0 ≤ (k : Int) := by omega
      have HQR : Hid (∃ q, wr = w.drewN q) := Lib.hid ⟨q, hq⟩
      by_cases hxz : x = z
      · have HS : Hid (Q = decide (a.drop (k + 1) = b.drop (k + 1))) := Lib.hid (by rw [hp.out, e1, e2, hxz]; simp)
        subst hxz
        clear hx hz e1 e2 hp hq hbel
        go_wp2_with fail
        go_quiet (fail)
        go_wp2_with fail
        exact ⟨⟨k + 1, by simp, by omega, (by obtain ⟨q, h⟩ := HQR.out; rw [h]; exact ⟨_, World.drewN_drewN _ _ _⟩), HS⟩, by simp only [intOf]; omega⟩
      · have HS : Hid (Q = false) := Lib.hid (by rw [hp.out, e1, e2]; simp [hxz])
        have hne : (x == z) = false := beq_eq_false_iff_ne.2 hxz
        clear hx hz e1 e2 hp hq hbel
        go_wp2_with fail
        go_quiet (fail)
        go_wp2_with fail
        go_ret
        exact ⟨by rw [HS.out]; rfl, (by obtain ⟨q, h⟩ := HQR.out; rw [h]; exact ⟨_, World.drewN_drewN _ _ _⟩)⟩
    · obtain rfl : k = n := by omega
      have hdec : decide ((k : Int) < (k : Int)) = false := by simp
      have HS : Hid (Q = true) := Lib.hid (by rw [hp.out, List.drop_eq_nil_of_le (by rw [HN.out]; exact Nat.le_refl _), List.drop_eq_nil_of_le (by rw [HM.out]; exact Nat.le_refl _)]; simp)
      have HQR : Hid (∃ q, wr = w.drewN q) := Lib.hid ⟨q, hq⟩
      clear hp hq
      go_wp2_with fail
      go_ret
      exact ⟨by rw [HS.out]; rfl, HQR.out⟩
set_option maxRecDepth 100000 in
set_option maxHeartbeats 1600000 in
theorem equal_any {S S' : Nat → Prop} (a b : List Bytes) (va vb : Value) (w : World) (ha : Rd S strV w va a) (hb : Rd S' strV w vb b) :
    Calls Tryz.prog 55 #[va, vb] w (fun e w' => e = .returned (.bool (decide (a = b))) ∧ ∃ q, w' = w.drewN q) := by
  obtain ⟨aa, ac, rfl, ha1, ha2⟩ := ha.form
  obtain ⟨ba, bc, rfl, hb1, hb2⟩ := hb.form
  unfold maxLen at ha2 hb2
  obtain ⟨n, hn⟩ : ∃ n, a.length = n := ⟨_, rfl⟩
  obtain ⟨m, hm⟩ : ∃ n, b.length = n := ⟨_, rfl⟩
  rw [hn] at ha ha1
  rw [hm] at hb hb1
  rw [hn, hm]
  have HN := Lib.hid hn
  have HM := Lib.hid hm
  have HA := Lib.hid ha
  have HB := Lib.hid hb
  clear ha hb hn hm
  by_cases hnm : n = m
  case neg =>
    have b0 : ((n : Int) == (m : Int)) = false := beq_eq_false_iff_ne.2 (by omega)
    have b1 : ((n : Int) != (m : Int)) = true := by simp [bne, b0]
    have HD : Hid (decide (a = b) = false) := Lib.hid (decide_eq_false (fun h => by subst h; exact hnm (HN.out.symm.trans HM.out)))
    clear hnm
    go_enter Tryz.func55, Tryz.ntmps55
    go_wp2_with fail
    go_ret
    exact ⟨by rw [HD.out]; rfl, 0, rfl⟩
  subst hnm
  obtain ⟨Q, hQ⟩ : ∃ q, decide (a = b) = q := ⟨_, rfl⟩
  rw [hQ]
  have HQ : Hid (Q = decide (a.drop 0 = b.drop 0)) := Lib.hid (by rw [← hQ]; simp)
  clear hQ
  go_enter Tryz.func55, Tryz.ntmps55
  go_wp2_with fail
  go_loopw [13, 5] (fun y _ wr => ∃ k : Nat, y = .int .i64 (k : Int) ∧ k ≤ n ∧ (∃ q, wr = w.drewN q) ∧ Hid (Q = decide (a.drop k = b.drop k))) (fun y _ _ => n - (intOf y).toNat)
  case atStart => exact ⟨0, rfl, Nat.zero_le _, ⟨0, rfl⟩, HQ⟩
  case round =>
    obtain ⟨k, rfl, hk, ⟨q, hq⟩, hp⟩ := hrel
    by_cases hkn : k < n
    · have hdec : decide ((k : Int) < (n : Int)) = true := by simpa using hkn
      have hkw : IntKind.i64.wrap ((k : Int) + 1) = (k : Int) + 1 := IntWalk.i64_in _ (by omega)
      have hbel : Below w.heap.size w wr := by rw [hq]; exact below_dn (Below.refl _ _) _
      obtain ⟨g1, o1, x, hx0, hx, hg1, hc1⟩ := (HA.out.below hbel).at_ k hkn
      obtain ⟨g2, o2, z, hz0, hz, hg2, hc2⟩ := (HB.out.below hbel).at_ k hkn
      subst hx0
      subst hz0
      unfold strV at hc1 hc2
      have e1 : a.drop k = x :: a.drop (k + 1) := by
        have hk := List.getElem?_eq_some_iff.1 hx
        rw [List.drop_eq_getElem_cons hk.1, hk.2]
      have e2 : b.drop k = z :: b.drop (k + 1) := by
        have hk := List.getElem?_eq_some_iff.1 hz
        rw [List.drop_eq_getElem_cons hk.1, hk.2]
      have hkn1 : (k : Int) < (n : Int) := by omega
      have hk0 : 0 ≤ (k : Int) := by omega
      have HQR : Hid (∃ q, wr = w.drewN q) := Lib.hid ⟨q, hq⟩
      by_cases hxz : x = z
      · have HS : Hid (Q = decide (a.drop (k + 1) = b.drop (k + 1))) := Lib.hid (by rw [hp.out, e1, e2, hxz]; simp)
        subst hxz
        clear hx hz e1 e2 hp hq hbel
        go_wp2_with fail
        go_quiet (fail)
        go_wp2_with fail
        exact ⟨⟨k + 1, by simp, by omega, (by obtain ⟨q, h⟩ := HQR.out; rw [h]; exact ⟨_, World.drewN_drewN _ _ _⟩), HS⟩, by simp only [intOf]; omega⟩
      · have HS : Hid (Q = false) := Lib.hid (by rw [hp.out, e1, e2]; simp [hxz])
        have hne : (x == z) = false := beq_eq_false_iff_ne.2 hxz
        clear hx hz e1 e2 hp hq hbel
        go_wp2_with fail
        go_quiet (fail)
        go_wp2_with fail
        go_ret
        exact ⟨by rw [HS.out]; rfl, (by obtain ⟨q, h⟩ := HQR.out; rw [h]; exact ⟨_, World.drewN_drewN _ _ _⟩)⟩
    · obtain rfl : k = n := by omega
      have hdec : decide ((k : Int) < (k : Int)) = false := by simp
      have HS : Hid (Q = true) := Lib.hid (by rw [hp.out, List.drop_eq_nil_of_le (by rw [HN.out]; exact Nat.le_refl _), List.drop_eq_nil_of_le (by rw [HM.out]; exact Nat.le_refl _)]; simp)
      have HQR : Hid (∃ q, wr = w.drewN q) := Lib.hid ⟨q, hq⟩
      clear hp hq
      go_wp2_with fail
      go_ret
      exact ⟨by rw [HS.out]; rfl, HQR.out⟩
set_option maxRecDepth 100000 in
set_option maxHeartbeats 3200000 in
theorem rsn_step {S S' : Nat → Prop} (a b : List Nd) (IH : ∀ (x z : Nd), x ∈ a → ∀ u v w, Tree S w u x.kids → Tree S' w v z.kids → Calls Tryz.prog 53 #[u, v] w (fun e w' => e = .returned (.bool (sameL x.kids z.kids)) ∧ ∃ q, w' = w.drewN q))
    (va vb : Value) (w : World) (ha : Tree S w va a) (hb : Tree S' w vb b) : Calls Tryz.prog 53 #[va, vb] w (fun e w' => e = .returned (.bool (sameL a b)) ∧ ∃ q, w' = w.drewN q) := by
  obtain ⟨aa, ac, rfl, ha1, ha2⟩ := ha.form
  obtain ⟨ba, bc, rfl, hb1, hb2⟩ := hb.form
  unfold maxLen at ha2 hb2
  obtain ⟨n, hn⟩ : ∃ n, a.length = n := ⟨_, rfl⟩
  obtain ⟨m, hm⟩ : ∃ n, b.length = n := ⟨_, rfl⟩
  rw [hn] at ha ha1
  rw [hm] at hb hb1
  rw [hn, hm]
  have HN := Lib.hid hn
  have HM := Lib.hid hm
  have HA := Lib.hid ha
  have HB := Lib.hid hb
  replace IH := Lib.hid IH
  clear ha hb hn hm
  by_cases hnm : n = m
  case neg =>
    have b0 : ((n : Int) == (m : Int)) = false := beq_eq_false_iff_ne.2 (by omega)
    have b1 : ((n : Int) != (m : Int)) = true := by simp [bne, b0]
    have HD : Hid (sameL a b = false) := Lib.hid (by
      cases h : sameL a b with
      | false => rfl
      | true => exact absurd (HN.out.symm.trans ((sameL_len a b h).trans HM.out)) hnm)
    clear hnm
    go_enter Tryz.func53, Tryz.ntmps53
    go_wp2_with fail
    go_ret
    exact ⟨by rw [HD.out]; rfl, 0, rfl⟩
  subst hnm
  obtain ⟨Q, hQ⟩ : ∃ q, sameL a b = q := ⟨_, rfl⟩
  rw [hQ]
  have HQ : Hid (Q = sameL (a.drop 0) (b.drop 0)) := Lib.hid (by rw [← hQ]; simp)
  clear hQ
  go_enter Tryz.func53, Tryz.ntmps53
  go_wp2_with fail
  go_loopw [5] (fun y wr => ∃ k : Nat, y = .int .i64 (k : Int) ∧ k ≤ n ∧ (∃ q, wr = w.drewN q) ∧ Hid (Q = sameL (a.drop k) (b.drop k))) (fun y _ => n - (intOf y).toNat)
  case atStart => exact ⟨0, rfl, Nat.zero_le _, ⟨0, rfl⟩, HQ⟩
  case round =>
    obtain ⟨k, rfl, hk, ⟨q, hq⟩, hp⟩ := hrel
    by_cases hkn : k < n
    · have hdec : decide ((k : Int) < (n : Int)) = true := by simpa using hkn
      have hkw : IntKind.i64.wrap ((k : Int) + 1) = (k : Int) + 1 := IntWalk.i64_in _ (by omega)
      have hbel : Below w.heap.size w wr := by rw [hq]; exact below_dn (Below.refl _ _) _
      obtain ⟨g1, o1, x, ka1, kc1, na1, nc1, hx0, hx, hg1, -, ⟨c0, c1, c2, c3, c4, c5⟩, hkt1, hnt1⟩ := (HA.out.bel hbel).nth k hkn
      obtain ⟨g2, o2, z, ka2, kc2, na2, nc2, hz0, hz, hg2, -, ⟨d0, d1, d2, d3, d4, d5⟩, hkt2, hnt2⟩ := (HB.out.bel hbel).nth k hkn
      subst hx0
      subst hz0
      have e1 : a.drop k = x :: a.drop (k + 1) := drop_at hx
      have e2 : b.drop k = z :: b.drop (k + 1) := drop_at hz
      have hsm : sameL (a.drop k) (b.drop k) = (sameN x z && sameL (a.drop (k + 1)) (b.drop (k + 1))) := by rw [e1, e2, sameL_cons]
      have hkn1 : (k : Int) < (n : Int) := by omega
      have hk0 : 0 ≤ (k : Int) := by omega
      have HQR : Hid (∃ q, wr = w.drewN q) := Lib.hid ⟨q, hq⟩
      clear hq
      have hxm := List.mem_of_getElem? hx
      obtain ⟨q1, hq1⟩ : ∃ q, decide (x.names = z.names) = q := ⟨_, rfl⟩
      obtain ⟨q2, hq2⟩ : ∃ q, sameL x.kids z.kids = q := ⟨_, rfl⟩
      have HNM : Hid (∀ n, Calls Tryz.prog 52 #[.slice na1 x.names.length nc1, .slice na2 z.names.length nc2] (wr.drewN n) (fun e w' => e = .returned (.bool q1) ∧ ∃ q, w' = (wr.drewN n).drewN q)) := Lib.hid (fun n => by
        have := rsamenames_any _ _ _ _ (wr.drewN n) (hnt1.below (below_dn (Below.refl _ wr) n)) (hnt2.below (below_dn (Below.refl _ wr) n))
        rwa [hq1] at this)
      have HKD : Hid (∀ n, Calls Tryz.prog 53 #[.slice ka1 x.kids.length kc1, .slice ka2 z.kids.length kc2] (wr.drewN n) (fun e w' => e = .returned (.bool q2) ∧ ∃ q, w' = (wr.drewN n).drewN q)) := Lib.hid (fun n => by
        have := IH.out x z hxm _ _ (wr.drewN n) (hkt1.bel (below_dn (Below.refl _ wr) n)) (hkt2.bel (below_dn (Below.refl _ wr) n))
        rwa [hq2] at this)
      have HSM := Lib.hid hsm
      clear hx hz e1 e2 hsm hbel hkt1 hkt2 hnt1 hnt2
      go_wp2_with fail
      simp only [List.append]
      refine wp_region_quiet_lit (by kernel_rfl) (by kernel_rfl) ?_
      by_cases a1 : x.kind = z.kind
      case neg =>
        have b1 : (x.kind == z.kind) = false := beq_eq_false_iff_ne.2 a1
        have b1n : (x.kind != z.kind) = true := by simp [bne, b1]
        have HS : Hid (Q = false) := Lib.hid (by rw [hp.out, HSM.out]; unfold sameN; simp [a1])
        repeat (go_big_quiet_step (first | (go_at_call 52; exact Calls.quiet_of (HNM.out _)) | (go_at_call 53; exact Calls.quiet_of (HKD.out _))))
        refine wpQuiet_nil ?_
        intro _ hw'
        obtain ⟨nq, hw''⟩ := hw'
        subst hw''
        go_wp2_with fail
        go_ret
        exact ⟨by rw [HS.out]; rfl, (by obtain ⟨q, h⟩ := HQR.out; rw [h]; exact ⟨_, World.drewN_drewN _ _ _⟩)⟩
      have b1 : (x.kind == z.kind) = true := beq_iff_eq.2 a1
      have b1n : (x.kind != z.kind) = false := by simp [bne, b1]
      have A1 := Lib.hid a1
      clear a1
      by_cases a2 : x.name = z.name
      case neg =>
        have b2 : (x.name == z.name) = false := beq_eq_false_iff_ne.2 a2
        have b2n : (x.name != z.name) = true := by simp [bne, b2]
        have HS : Hid (Q = false) := Lib.hid (by rw [hp.out, HSM.out]; unfold sameN; simp [a2])
        repeat (go_big_quiet_step (first | (go_at_call 52; exact Calls.quiet_of (HNM.out _)) | (go_at_call 53; exact Calls.quiet_of (HKD.out _))))
        refine wpQuiet_nil ?_
        intro _ hw'
        obtain ⟨nq, hw''⟩ := hw'
        subst hw''
        go_wp2_with fail
        go_ret
        exact ⟨by rw [HS.out]; rfl, (by obtain ⟨q, h⟩ := HQR.out; rw [h]; exact ⟨_, World.drewN_drewN _ _ _⟩)⟩
      have b2 : (x.name == z.name) = true := beq_iff_eq.2 a2
      have b2n : (x.name != z.name) = false := by simp [bne, b2]
      have A2 := Lib.hid a2
      clear a2
      by_cases a3 : x.num = z.num
      case neg =>
        have b3 : (x.num == z.num) = false := beq_eq_false_iff_ne.2 a3
        have b3n : (x.num != z.num) = true := by simp [bne, b3]
        have HS : Hid (Q = false) := Lib.hid (by rw [hp.out, HSM.out]; unfold sameN; simp [a3])
        repeat (go_big_quiet_step (first | (go_at_call 52; exact Calls.quiet_of (HNM.out _)) | (go_at_call 53; exact Calls.quiet_of (HKD.out _))))
        refine wpQuiet_nil ?_
        intro _ hw'
        obtain ⟨nq, hw''⟩ := hw'
        subst hw''
        go_wp2_with fail
        go_ret
        exact ⟨by rw [HS.out]; rfl, (by obtain ⟨q, h⟩ := HQR.out; rw [h]; exact ⟨_, World.drewN_drewN _ _ _⟩)⟩
      have b3 : (x.num == z.num) = true := beq_iff_eq.2 a3
      have b3n : (x.num != z.num) = false := by simp [bne, b3]
      have A3 := Lib.hid a3
      clear a3
      cases q1
      case false =>
        have HS : Hid (Q = false) := Lib.hid (by rw [hp.out, HSM.out]; unfold sameN; simp [hq1])
        repeat (go_big_quiet_step (first | (go_at_call 52; exact Calls.quiet_of (HNM.out _)) | (go_at_call 53; exact Calls.quiet_of (HKD.out _))))
        refine wpQuiet_nil ?_
        intro _ hw'
        obtain ⟨nq, hw''⟩ := hw'
        subst hw''
        go_wp2_with fail
        go_ret
        exact ⟨by rw [HS.out]; rfl, (by obtain ⟨q, h⟩ := HQR.out; rw [h]; exact ⟨_, World.drewN_drewN _ _ _⟩)⟩
      cases q2
      case false =>
        have HS : Hid (Q = false) := Lib.hid (by rw [hp.out, HSM.out]; unfold sameN; simp [hq2])
        repeat (go_big_quiet_step (first | (go_at_call 52; exact Calls.quiet_of (HNM.out _)) | (go_at_call 53; exact Calls.quiet_of (HKD.out _))))
        refine wpQuiet_nil ?_
        intro _ hw'
        obtain ⟨nq, hw''⟩ := hw'
        subst hw''
        go_wp2_with fail
        go_ret
        exact ⟨by rw [HS.out]; rfl, (by obtain ⟨q, h⟩ := HQR.out; rw [h]; exact ⟨_, World.drewN_drewN _ _ _⟩)⟩
      have HS : Hid (Q = sameL (a.drop (k + 1)) (b.drop (k + 1))) := Lib.hid (by rw [hp.out, HSM.out]; unfold sameN; simp [A1.out, A2.out, A3.out, hq2, of_decide_eq_true hq1])
      repeat (go_big_quiet_step (first | (go_at_call 52; exact Calls.quiet_of (HNM.out _)) | (go_at_call 53; exact Calls.quiet_of (HKD.out _))))
      refine wpQuiet_nil ?_
      intro _ hw'
      obtain ⟨nq, hw''⟩ := hw'
      subst hw''
      go_wp2_with fail
      exact ⟨⟨k + 1, by simp, by omega, (by obtain ⟨q, h⟩ := HQR.out; rw [h]; exact ⟨_, World.drewN_drewN _ _ _⟩), HS⟩, by simp only [intOf]; omega⟩
    · obtain rfl : k = n := by omega
      have hdec : decide ((k : Int) < (k : Int)) = false := by simp
      have HS : Hid (Q = true) := Lib.hid (by rw [hp.out, List.drop_eq_nil_of_le (by rw [HN.out]; exact Nat.le_refl _), List.drop_eq_nil_of_le (by rw [HM.out]; exact Nat.le_refl _), sameL_nil])
      have HQR : Hid (∃ q, wr = w.drewN q) := Lib.hid ⟨q, hq⟩
      clear hp hq
      go_wp2_with fail
      go_ret
      exact ⟨by rw [HS.out]; rfl, HQR.out⟩
theorem rsn_all {S S' : Nat → Prop} : ∀ (m : Nat) (a b : List Nd), cntL a < m → ∀ va vb w, Tree S w va a → Tree S' w vb b → Calls Tryz.prog 53 #[va, vb] w (fun e w' => e = .returned (.bool (sameL a b)) ∧ ∃ q, w' = w.drewN q)
  | 0, a, b, h => by omega
  | m + 1, a, b, h => rsn_step a b (fun x z hx => rsn_all m x.kids z.kids (by have := cnt_mem hx; omega))
theorem rsamenodes_any {S S' : Nat → Prop} (a b : List Nd) (va vb : Value) (w : World) (ha : Tree S w va a) (hb : Tree S' w vb b) : Calls Tryz.prog 53 #[va, vb] w (fun e w' => e = .returned (.bool (sameL a b)) ∧ ∃ q, w' = w.drewN q) :=
  rsn_all (cntL a + 1) a b (by omega) va vb w ha hb
end Tr
end Go.Proofs.YtfbhokdcnjekiaaGreatDoor
