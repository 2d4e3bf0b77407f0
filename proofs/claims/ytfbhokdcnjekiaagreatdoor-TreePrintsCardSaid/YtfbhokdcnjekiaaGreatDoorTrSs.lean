/- Are two methods the same: plain, and both sides' walks (printed by gen_trsm.py). · Package tree: walk, with a fact that holds of each node when it comes up (printed by gen_trse.py out of walk_step). · Are two methods the same: the program's walk and the reference's Same (printed by gen_trsn.py). · The function that the law TreeSame hands to Walk (printed by gen_trsq.py, hdx.py). · A tree whose row lies in a block of its own, and the count at its first node's place; what the law TreeSame leans on. -/
import Derived.Test.YtfbhokdcnjekiaaGreatDoorTrWa
import Derived.Deep.QuietTactic
import Derived.BigQuiet
import Derived.Test.YtfbhokdcnjekiaaGreatDoorTrL0
set_option linter.unusedVariables false
namespace Go.Proofs.YtfbhokdcnjekiaaGreatDoor
open Go.RowKit
namespace Tr
open Bs Sm
theorem below_dn {B : Nat} {a w : World} (h : Below B a w) (n : Nat) : Below B a (w.drewN n) := ⟨h.os, h.tape, h.output, h.size, h.block⟩
/-- Have nodes the same? -/
def sameL : List Nd → List Nd → Bool
  | [], [] => true
  | [], _ :: _ => false
  | _ :: _, [] => false
  | x :: a, y :: b => (x.kind == y.kind && decide (x.name = y.name) && x.num == y.num && decide (x.names = y.names) && sameL x.kids y.kids) && sameL a b
  termination_by l => SizeOf.sizeOf l
  decreasing_by all_goals (have := x.sz; simp; omega)
def sameN (x y : Nd) : Bool := x.kind == y.kind && decide (x.name = y.name) && x.num == y.num && decide (x.names = y.names) && sameL x.kids y.kids
theorem sameL_nil : sameL [] [] = true := by unfold sameL; rfl
theorem sameL_cons (x y : Nd) (a b : List Nd) : sameL (x :: a) (y :: b) = (sameN x y && sameL a b) := by rw [sameL]; rfl
theorem sameL_len : ∀ (a b : List Nd), sameL a b = true → a.length = b.length
  | [], [], _ => rfl
  | [], y :: b, h => by unfold sameL at h; cases h
  | x :: a, [], h => by unfold sameL at h; cases h
  | x :: a, y :: b, h => by
    rw [sameL_cons, Bool.and_eq_true] at h
    rw [List.length_cons, List.length_cons, sameL_len a b h.2]
theorem sameL_refl (l : List Nd) : sameL l l = true := by
  refine Nd.ind (P := fun l => sameL l l = true) sameL_nil ?_ l
  intro x l h1 h2
  rw [sameL_cons, h2]
  unfold sameN
  rw [h1]
  simp
def sameM (a b : Mt) : Bool := decide (a.name = b.name) && a.prim == b.prim && decide (a.params = b.params) && decide (a.temps = b.temps) && sameL a.body b.body
theorem sameM_refl (a : Mt) : sameM a a = true := by unfold sameM; rw [sameL_refl]; simp
set_option maxRecDepth 100000 in
set_option maxHeartbeats 1600000 in
theorem rsamenames_any {S S' : Nat → Prop} (a b : List Bytes) (va vb : Value) (w : World) (ha : Rd S strV w va a) (hb : Rd S' strV w vb b) :
    Calls Tryz.prog 52 #[va, vb] w (fun e w' => e = .returned (.bool (decide (a = b))) ∧ ∃ q, w' = w.drewN q) := by
  obtain ⟨aa, ac, rfl, ha1, ha2⟩ := ha.form
  obtain ⟨ba, bc, rfl, hb1, hb2⟩ := hb.form
  unfold maxLen at ha2 hb2
  obtain ⟨n, hn⟩ : ∃ n, a.length = n := ⟨_, rfl⟩
  obtain ⟨m, hm⟩ : ∃ n, b.length = n := ⟨_, rfl⟩
  rw [hn] at ha ha1
  rw [hm] at hb hb1
  rw [hn, hm]
  have HN := Lib.hid hn
  have HM := Lib.hid hm
  have HA := Lib.hid ha
  have HB := Lib.hid hb
  clear ha hb hn hm
  by_cases hnm : n = m
  case neg =>
    have b0 : ((n : Int) == (m : Int)) = false := beq_eq_false_iff_ne.2 (by omega)
    have b1 : ((n : Int) != (m : Int)) = true := by simp [bne, b0]
    have HD : Hid (decide (a = b) = false) := Lib.hid (decide_eq_false (fun h => by subst h; exact hnm (HN.out.symm.trans HM.out)))
    clear hnm
    go_enter Tryz.func52, Tryz.ntmps52
    go_wp2_with fail
    go_ret
    exact ⟨by rw [HD.out]; rfl, 0, rfl⟩
  subst hnm
  obtain ⟨Q, hQ⟩ : ∃ q, decide (a = b) = q := ⟨_, rfl⟩
  rw [hQ]
  have HQ : Hid (Q = decide (a.drop 0 = b.drop 0)) := Lib.hid (by rw [← hQ]; simp)
  clear hQ
  go_enter Tryz.func52, Tryz.ntmps52
  go_wp2_with fail
  go_loopw [5] (fun y wr => ∃ k : Nat, y = .int .i64 (k : Int) ∧ k ≤ n ∧ (∃ q, wr = w.drewN q) ∧ Hid (Q = decide (a.drop k = b.drop k))) (fun y _ => n - (intOf y).toNat)
  case atStart => exact ⟨0, rfl, Nat.zero_le _, ⟨0, rfl⟩, HQ⟩
  case round =>
    obtain ⟨k, rfl, hk, ⟨q, hq⟩, hp⟩ := hrel
    by_cases hkn : k < n
    · have hdec : decide ((k : Int) < (n : Int)) = true := by simpa using hkn
      have hkw : IntKind.i64.wrap ((k : Int) + 1) = (k : Int) + 1 := IntWalk.i64_in _ (by omega)
      have hbel : Below w.heap.size w wr := by rw [hq]; exact below_dn (Below.refl _ _) _
      obtain ⟨g1, o1, x, hx0, hx, hg1, hc1⟩ := (HA.out.below hbel).at_ k hkn
      obtain ⟨g2, o2, z, hz0, hz, hg2, hc2⟩ := (HB.out.below hbel).at_ k hkn
      subst hx0
      subst hz0
      unfold strV at hc1 hc2
      have e1 : a.drop k = x :: a.drop (k + 1) := by
        have hk := List.getElem?_eq_some_iff.1 hx
        rw [List.drop_eq_getElem_cons hk.1, hk.2]
      have e2 : b.drop k = z :: b.drop (k + 1) := by
        have hk := List.getElem?_eq_some_iff.1 hz
        rw [List.drop_eq_getElem_cons hk.1, hk.2]
      have hkn1 : (k : Int) < (n : Int) := by omega
      have hk0 : 0 ≤ (k : Int) := by omega
      have HQR : Hid (∃ q, wr = w.drewN q) := Lib.hid ⟨q, hq⟩
      by_cases hxz : x = z
      · have HS : Hid (Q = decide (a.drop (k + 1) = b.drop (k + 1))) := Lib.hid (by rw [hp.out, e1, e2, hxz]; simp)
        subst hxz
        clear hx hz e1 e2 hp hq hbel
        go_wp2_with fail
        go_quiet (fail)
        go_wp2_with fail
        exact ⟨⟨k + 1, by simp, by omega, (by obtain ⟨q, h⟩ := HQR.out; rw [h]; exact ⟨_, World.drewN_drewN _ _ _⟩), HS⟩, by simp only [intOf]; omega⟩
      · have HS : Hid (Q = false) := Lib.hid (by rw [hp.out, e1, e2]; simp [hxz])
        have hne : (x == z) = false := beq_eq_false_iff_ne.2 hxz
        clear hx hz e1 e2 hp hq hbel
        go_wp2_with fail
        go_quiet (fail)
        go_wp2_with fail
        go_ret
        exact ⟨by rw [HS.out]; rfl, (by obtain ⟨q, h⟩ := HQR.out; rw [h]; exact ⟨_, World.drewN_drewN _ _ _⟩)⟩
    · obtain rfl : k = n := by omega
      have hdec : decide ((k : Int) < (k : Int)) = false := by simp
      have HS : Hid (Q = true) := Lib.hid (by rw [hp.out, List.drop_eq_nil_of_le (by rw [HN.out]; exact Nat.le_refl _), List.drop_eq_nil_of_le (by rw [HM.out]; exact Nat.le_refl _)]; simp)
      have HQR : Hid (∃ q, wr = w.drewN q) := Lib.hid ⟨q, hq⟩
      clear hp hq
      go_wp2_with fail
      go_ret
      exact ⟨by rw [HS.out]; rfl, HQR.out⟩
set_option maxRecDepth 100000 in
set_option maxHeartbeats 3200000 in
theorem rsn_step {S S' : Nat → Prop} (a b : List Nd) (IH : ∀ (x z : Nd), x ∈ a → ∀ u v w, Tree S w u x.kids → Tree S' w v z.kids → Calls Tryz.prog 53 #[u, v] w (fun e w' => e = .returned (.bool (sameL x.kids z.kids)) ∧ ∃ q, w' = w.drewN q))
    (va vb : Value) (w : World) (ha : Tree S w va a) (hb : Tree S' w vb b) : Calls Tryz.prog 53 #[va, vb] w (fun e w' => e = .returned (.bool (sameL a b)) ∧ ∃ q, w' = w.drewN q) := by
  obtain ⟨aa, ac, rfl, ha1, ha2⟩ := ha.form
  obtain ⟨ba, bc, rfl, hb1, hb2⟩ := hb.form
  unfold maxLen at ha2 hb2
  obtain ⟨n, hn⟩ : ∃ n, a.length = n := ⟨_, rfl⟩
  obtain ⟨m, hm⟩ : ∃ n, b.length = n := ⟨_, rfl⟩
  rw [hn] at ha ha1
  rw [hm] at hb hb1
  rw [hn, hm]
  have HN := Lib.hid hn
  have HM := Lib.hid hm
  have HA := Lib.hid ha
  have HB := Lib.hid hb
  replace IH := Lib.hid IH
  clear ha hb hn hm
  by_cases hnm : n = m
  case neg =>
    have b0 : ((n : Int) == (m : Int)) = false := beq_eq_false_iff_ne.2 (by omega)
    have b1 : ((n : Int) != (m : Int)) = true := by simp [bne, b0]
    have HD : Hid (sameL a b = false) := Lib.hid (by
      cases h : sameL a b with
      | false => rfl
      | true => exact absurd (HN.out.symm.trans ((sameL_len a b h).trans HM.out)) hnm)
    clear hnm
    go_enter Tryz.func53, Tryz.ntmps53
    go_wp2_with fail
    go_ret
    exact ⟨by rw [HD.out]; rfl, 0, rfl⟩
  subst hnm
  obtain ⟨Q, hQ⟩ : ∃ q, sameL a b = q := ⟨_, rfl⟩
  rw [hQ]
  have HQ : Hid (Q = sameL (a.drop 0) (b.drop 0)) := Lib.hid (by rw [← hQ]; simp)
  clear hQ
  go_enter Tryz.func53, Tryz.ntmps53
  go_wp2_with fail
  go_loopw [5] (fun y wr => ∃ k : Nat, y = .int .i64 (k : Int) ∧ k ≤ n ∧ (∃ q, wr = w.drewN q) ∧ Hid (Q = sameL (a.drop k) (b.drop k))) (fun y _ => n - (intOf y).toNat)
  case atStart => exact ⟨0, rfl, Nat.zero_le _, ⟨0, rfl⟩, HQ⟩
  case round =>
    obtain ⟨k, rfl, hk, ⟨q, hq⟩, hp⟩ := hrel
    by_cases hkn : k < n
    · have hdec : decide ((k : Int) < (n : Int)) = true := by simpa using hkn
      have hkw : IntKind.i64.wrap ((k : Int) + 1) = (k : Int) + 1 := IntWalk.i64_in _ (by omega)
      have hbel : Below w.heap.size w wr := by rw [hq]; exact below_dn (Below.refl _ _) _
      obtain ⟨g1, o1, x, ka1, kc1, na1, nc1, hx0, hx, hg1, -, ⟨c0, c1, c2, c3, c4, c5⟩, hkt1, hnt1⟩ := (HA.out.bel hbel).nth k hkn
      obtain ⟨g2, o2, z, ka2, kc2, na2, nc2, hz0, hz, hg2, -, ⟨d0, d1, d2, d3, d4, d5⟩, hkt2, hnt2⟩ := (HB.out.bel hbel).nth k hkn
      subst hx0
      subst hz0
      have e1 : a.drop k = x :: a.drop (k + 1) := drop_at hx
      have e2 : b.drop k = z :: b.drop (k + 1) := drop_at hz
      have hsm : sameL (a.drop k) (b.drop k) = (sameN x z && sameL (a.drop (k + 1)) (b.drop (k + 1))) := by rw [e1, e2, sameL_cons]
      have hkn1 : (k : Int) < (n : Int) := by omega
      have hk0 : 0 ≤ (k : Int) := by omega
      have HQR : Hid (∃ q, wr = w.drewN q) := Lib.hid ⟨q, hq⟩
      clear hq
      have hxm := List.mem_of_getElem? hx
      obtain ⟨q1, hq1⟩ : ∃ q, decide (x.names = z.names) = q := ⟨_, rfl⟩
      obtain ⟨q2, hq2⟩ : ∃ q, sameL x.kids z.kids = q := ⟨_, rfl⟩
      have HNM : Hid (∀ n, Calls Tryz.prog 52 #[.slice na1 x.names.length nc1, .slice na2 z.names.length nc2] (wr.drewN n) (fun e w' => e = .returned (.bool q1) ∧ ∃ q, w' = (wr.drewN n).drewN q)) := Lib.hid (fun n => by
        have := rsamenames_any _ _ _ _ (wr.drewN n) (hnt1.below (below_dn (Below.refl _ wr) n)) (hnt2.below (below_dn (Below.refl _ wr) n))
        rwa [hq1] at this)
      have HKD : Hid (∀ n, Calls Tryz.prog 53 #[.slice ka1 x.kids.length kc1, .slice ka2 z.kids.length kc2] (wr.drewN n) (fun e w' => e = .returned (.bool q2) ∧ ∃ q, w' = (wr.drewN n).drewN q)) := Lib.hid (fun n => by
        have := IH.out x z hxm _ _ (wr.drewN n) (hkt1.bel (below_dn (Below.refl _ wr) n)) (hkt2.bel (below_dn (Below.refl _ wr) n))
        rwa [hq2] at this)
      have HSM := Lib.hid hsm
      clear hx hz e1 e2 hsm hbel hkt1 hkt2 hnt1 hnt2
      go_wp2_with fail
      simp only [List.append]
      refine wp_region_quiet_lit (by kernel_rfl) (by kernel_rfl) ?_
      by_cases a1 : x.kind = z.kind
      case neg =>
        have b1 : (x.kind == z.kind) = false := beq_eq_false_iff_ne.2 a1
        have b1n : (x.kind != z.kind) = true := by simp [bne, b1]
        have HS : Hid (Q = false) := Lib.hid (by rw [hp.out, HSM.out]; unfold sameN; simp [a1])
        repeat (go_big_quiet_step (first | (go_at_call 52; exact Calls.quiet_of (HNM.out _)) | (go_at_call 53; exact Calls.quiet_of (HKD.out _))))
        refine wpQuiet_nil ?_
        intro _ hw'
        obtain ⟨nq, hw''⟩ := hw'
        subst hw''
        go_wp2_with fail
        go_ret
        exact ⟨by rw [HS.out]; rfl, (by obtain ⟨q, h⟩ := HQR.out; rw [h]; exact ⟨_, World.drewN_drewN _ _ _⟩)⟩
      have b1 : (x.kind == z.kind) = true := beq_iff_eq.2 a1
      have b1n : (x.kind != z.kind) = false := by simp [bne, b1]
      have A1 := Lib.hid a1
      clear a1
      by_cases a2 : x.name = z.name
      case neg =>
        have b2 : (x.name == z.name) = false := beq_eq_false_iff_ne.2 a2
        have b2n : (x.name != z.name) = true := by simp [bne, b2]
        have HS : Hid (Q = false) := Lib.hid (by rw [hp.out, HSM.out]; unfold sameN; simp [a2])
        repeat (go_big_quiet_step (first | (go_at_call 52; exact Calls.quiet_of (HNM.out _)) | (go_at_call 53; exact Calls.quiet_of (HKD.out _))))
        refine wpQuiet_nil ?_
        intro _ hw'
        obtain ⟨nq, hw''⟩ := hw'
        subst hw''
        go_wp2_with fail
        go_ret
        exact ⟨by rw [HS.out]; rfl, (by obtain ⟨q, h⟩ := HQR.out; rw [h]; exact ⟨_, World.drewN_drewN _ _ _⟩)⟩
      have b2 : (x.name == z.name) = true := beq_iff_eq.2 a2
      have b2n : (x.name != z.name) = false := by simp [bne, b2]
      have A2 := Lib.hid a2
      clear a2
      by_cases a3 : x.num = z.num
      case neg =>
        have b3 : (x.num == z.num) = false := beq_eq_false_iff_ne.2 a3
        have b3n : (x.num != z.num) = true := by simp [bne, b3]
        have HS : Hid (Q = false) := Lib.hid (by rw [hp.out, HSM.out]; unfold sameN; simp [a3])
        repeat (go_big_quiet_step (first | (go_at_call 52; exact Calls.quiet_of (HNM.out _)) | (go_at_call 53; exact Calls.quiet_of (HKD.out _))))
        refine wpQuiet_nil ?_
        intro _ hw'
        obtain ⟨nq, hw''⟩ := hw'
        subst hw''
        go_wp2_with fail
        go_ret
        exact ⟨by rw [HS.out]; rfl, (by obtain ⟨q, h⟩ := HQR.out; rw [h]; exact ⟨_, World.drewN_drewN _ _ _⟩)⟩
      have b3 : (x.num == z.num) = true := beq_iff_eq.2 a3
      have b3n : (x.num != z.num) = false := by simp [bne, b3]
      have A3 := Lib.hid a3
      clear a3
      cases q1
      case false =>
        have HS : Hid (Q = false) := Lib.hid (by rw [hp.out, HSM.out]; unfold sameN; simp [hq1])
        repeat (go_big_quiet_step (first | (go_at_call 52; exact Calls.quiet_of (HNM.out _)) | (go_at_call 53; exact Calls.quiet_of (HKD.out _))))
        refine wpQuiet_nil ?_
        intro _ hw'
        obtain ⟨nq, hw''⟩ := hw'
        subst hw''
        go_wp2_with fail
        go_ret
        exact ⟨by rw [HS.out]; rfl, (by obtain ⟨q, h⟩ := HQR.out; rw [h]; exact ⟨_, World.drewN_drewN _ _ _⟩)⟩
      cases q2
      case false =>
        have HS : Hid (Q = false) := Lib.hid (by rw [hp.out, HSM.out]; unfold sameN; simp [hq2])
        repeat (go_big_quiet_step (first | (go_at_call 52; exact Calls.quiet_of (HNM.out _)) | (go_at_call 53; exact Calls.quiet_of (HKD.out _))))
        refine wpQuiet_nil ?_
        intro _ hw'
        obtain ⟨nq, hw''⟩ := hw'
        subst hw''
        go_wp2_with fail
        go_ret
        exact ⟨by rw [HS.out]; rfl, (by obtain ⟨q, h⟩ := HQR.out; rw [h]; exact ⟨_, World.drewN_drewN _ _ _⟩)⟩
      have HS : Hid (Q = sameL (a.drop (k + 1)) (b.drop (k + 1))) := Lib.hid (by rw [hp.out, HSM.out]; unfold sameN; simp [A1.out, A2.out, A3.out, hq2, of_decide_eq_true hq1])
      repeat (go_big_quiet_step (first | (go_at_call 52; exact Calls.quiet_of (HNM.out _)) | (go_at_call 53; exact Calls.quiet_of (HKD.out _))))
      refine wpQuiet_nil ?_
      intro _ hw'
      obtain ⟨nq, hw''⟩ := hw'
      subst hw''
      go_wp2_with fail
      exact ⟨⟨k + 1, by simp, by omega, (by obtain ⟨q, h⟩ := HQR.out; rw [h]; exact ⟨_, World.drewN_drewN _ _ _⟩), HS⟩, by simp only [intOf]; omega⟩
    · obtain rfl : k = n := by omega
      have hdec : decide ((k : Int) < (k : Int)) = false := by simp
      have HS : Hid (Q = true) := Lib.hid (by rw [hp.out, List.drop_eq_nil_of_le (by rw [HN.out]; exact Nat.le_refl _), List.drop_eq_nil_of_le (by rw [HM.out]; exact Nat.le_refl _), sameL_nil])
      have HQR : Hid (∃ q, wr = w.drewN q) := Lib.hid ⟨q, hq⟩
      clear hp hq
      go_wp2_with fail
      go_ret
      exact ⟨by rw [HS.out]; rfl, HQR.out⟩
theorem rsn_all {S S' : Nat → Prop} : ∀ (m : Nat) (a b : List Nd), cntL a < m → ∀ va vb w, Tree S w va a → Tree S' w vb b → Calls Tryz.prog 53 #[va, vb] w (fun e w' => e = .returned (.bool (sameL a b)) ∧ ∃ q, w' = w.drewN q)
  | 0, a, b, h => by omega
  | m + 1, a, b, h => rsn_step a b (fun x z hx => rsn_all m x.kids z.kids (by have := cnt_mem hx; omega))
theorem rsamenodes_any {S S' : Nat → Prop} (a b : List Nd) (va vb : Value) (w : World) (ha : Tree S w va a) (hb : Tree S' w vb b) : Calls Tryz.prog 53 #[va, vb] w (fun e w' => e = .returned (.bool (sameL a b)) ∧ ∃ q, w' = w.drewN q) :=
  rsn_all (cntL a + 1) a b (by omega) va vb w ha hb
end Tr
end Go.Proofs.YtfbhokdcnjekiaaGreatDoor
namespace Go.Proofs.YtfbhokdcnjekiaaGreatDoor
open Go.RowKit
namespace Tr
open Bs Sm
end Tr
end Go.Proofs.YtfbhokdcnjekiaaGreatDoor
namespace Go.Proofs.YtfbhokdcnjekiaaGreatDoor
open Go.RowKit
namespace Tr
open Bs Sm
set_option maxRecDepth 100000 in
set_option maxHeartbeats 3200000 in
theorem RSame_any {S S' : Nat → Prop} (x z : Mt) (pv tv bv pv' tv' bv' : Value) (w : World) (hx : MtAt S w x pv tv bv) (hz : MtAt S' w z pv' tv' bv') :
    Calls Tryz.prog 18 #[mtV x pv tv bv, mtV z pv' tv' bv'] w (Back (.bool (sameM x z)) w) := by
  obtain ⟨xpa, xpc, rfl, -, -⟩ := hx.params.form
  obtain ⟨xta, xtc, rfl, -, -⟩ := hx.temps.form
  obtain ⟨xba, xbc, rfl, -, -⟩ := hx.body.form
  obtain ⟨zpa, zpc, rfl, -, -⟩ := hz.params.form
  obtain ⟨zta, ztc, rfl, -, -⟩ := hz.temps.form
  obtain ⟨zba, zbc, rfl, -, -⟩ := hz.body.form
  have hX := alloc_bel w (.cells #[.string ⟨x.name.toArray⟩, .slice xpa x.params.length xpc, .slice xta x.temps.length xtc, .int .i64 x.prim, .slice xba x.body.length xbc, .int .i64 x.at_] 25)
  have hbx := Blk.made (T := 25) (cs := #[.string ⟨x.name.toArray⟩, .slice xpa x.params.length xpc, .slice xta x.temps.length xtc, .int .i64 x.prim, .slice xba x.body.length xbc, .int .i64 x.at_]) w
  obtain ⟨w1, hw1⟩ : ∃ v, w.alloc (.cells #[.string ⟨x.name.toArray⟩, .slice xpa x.params.length xpc, .slice xta x.temps.length xtc, .int .i64 x.prim, .slice xba x.body.length xbc, .int .i64 x.at_] 25) = v := ⟨_, rfl⟩
  rw [hw1] at hX hbx
  have hY := alloc_bel w1 (.cells #[.string ⟨z.name.toArray⟩, .slice zpa z.params.length zpc, .slice zta z.temps.length ztc, .int .i64 z.prim, .slice zba z.body.length zbc, .int .i64 z.at_] 25)
  have hbz := Blk.made (T := 25) (cs := #[.string ⟨z.name.toArray⟩, .slice zpa z.params.length zpc, .slice zta z.temps.length ztc, .int .i64 z.prim, .slice zba z.body.length zbc, .int .i64 z.at_]) w1
  obtain ⟨w2, hw2⟩ : ∃ v, w1.alloc (.cells #[.string ⟨z.name.toArray⟩, .slice zpa z.params.length zpc, .slice zta z.temps.length ztc, .int .i64 z.prim, .slice zba z.body.length zbc, .int .i64 z.at_] 25) = v := ⟨_, rfl⟩
  rw [hw2] at hY hbz
  have hsz : w1.heap.size = w.heap.size + 1 := by rw [← hw1]; simp
  rw [hsz] at hbz
  have n1 : ¬ w.heap.size = w.heap.size + 1 := by omega
  have n2 : ¬ w.heap.size + 1 = w.heap.size := by omega
  have hbx2 := hbx.below hY hbx.lt
  have hXY := hX.trans (hY.mono hX.size)
  obtain ⟨Q, hq0⟩ : ∃ q, sameM x z = q := ⟨_, rfl⟩
  rw [hq0]
  obtain ⟨q1, hq1⟩ : ∃ q, decide (x.params = z.params) = q := ⟨_, rfl⟩
  obtain ⟨q2, hq2⟩ : ∃ q, decide (x.temps = z.temps) = q := ⟨_, rfl⟩
  obtain ⟨q3, hq3⟩ : ∃ q, sameL x.body z.body = q := ⟨_, rfl⟩
  have hn : ∀ W, (∃ n, W = w2.drewN n) → Below w.heap.size w W := fun W h => by obtain ⟨n, rfl⟩ := h; exact hXY.trans ((below_dn (Below.refl _ w2) n).mono hXY.size)
  have HP : Hid (∀ W, (∃ n, W = w2.drewN n) → Calls Tryz.prog 52 #[.slice xpa x.params.length xpc, .slice zpa z.params.length zpc] W (fun e w' => e = .returned (.bool q1) ∧ ∃ q, w' = W.drewN q)) := Lib.hid (fun W hW => by
    have := rsamenames_any _ _ _ _ W (hx.params.below (hn W hW)) (hz.params.below (hn W hW))
    rwa [hq1] at this)
  have HT : Hid (∀ W, (∃ n, W = w2.drewN n) → Calls Tryz.prog 52 #[.slice xta x.temps.length xtc, .slice zta z.temps.length ztc] W (fun e w' => e = .returned (.bool q2) ∧ ∃ q, w' = W.drewN q)) := Lib.hid (fun W hW => by
    have := rsamenames_any _ _ _ _ W (hx.temps.below (hn W hW)) (hz.temps.below (hn W hW))
    rwa [hq2] at this)
  have HKD : Hid (∀ W, (∃ n, W = w2.drewN n) → Calls Tryz.prog 53 #[.slice xba x.body.length xbc, .slice zba z.body.length zbc] W (fun e w' => e = .returned (.bool q3) ∧ ∃ q, w' = W.drewN q)) := Lib.hid (fun W hW => by
    have := rsamenodes_any _ _ _ _ W (hx.body.bel (hn W hW)) (hz.body.bel (hn W hW))
    rwa [hq3] at this)
  have HB0 : Hid (∀ W, (∃ n, W = w2.drewN n) → Below w.heap.size w W) := Lib.hid hn
  unfold mtV
  have HW1 := Lib.hid hw1
  have HW2 := Lib.hid hw2
  have c0 : w2.cell? ⟨w.heap.size, 0, none⟩ = some (.string ⟨x.name.toArray⟩) := hbx2.c 0 _ rfl
  have c1 : w2.cell? ⟨w.heap.size, 1, none⟩ = some (.slice xpa x.params.length xpc) := hbx2.c 1 _ rfl
  have c2 : w2.cell? ⟨w.heap.size, 2, none⟩ = some (.slice xta x.temps.length xtc) := hbx2.c 2 _ rfl
  have c3 : w2.cell? ⟨w.heap.size, 3, none⟩ = some (.int .i64 x.prim) := hbx2.c 3 _ rfl
  have c4 : w2.cell? ⟨w.heap.size, 4, none⟩ = some (.slice xba x.body.length xbc) := hbx2.c 4 _ rfl
  have d0 : w2.cell? ⟨w.heap.size + 1, 0, none⟩ = some (.string ⟨z.name.toArray⟩) := hbz.c 0 _ rfl
  have d1 : w2.cell? ⟨w.heap.size + 1, 1, none⟩ = some (.slice zpa z.params.length zpc) := hbz.c 1 _ rfl
  have d2 : w2.cell? ⟨w.heap.size + 1, 2, none⟩ = some (.slice zta z.temps.length ztc) := hbz.c 2 _ rfl
  have d3 : w2.cell? ⟨w.heap.size + 1, 3, none⟩ = some (.int .i64 z.prim) := hbz.c 3 _ rfl
  have d4 : w2.cell? ⟨w.heap.size + 1, 4, none⟩ = some (.slice zba z.body.length zbc) := hbz.c 4 _ rfl
  have ZB : ∃ n, w2 = w2.drewN n := ⟨0, rfl⟩
  have ZH := Lib.hid ZB
  clear ZB hn hsz hx hz hX hbx hw1 hY hbz hw2 hbx2 hXY
  go_enter Tryz.func18, Tryz.ntmps18
  go_upto_region 1 with fail
  rw [HW1.out, HW2.out]
  by_cases a1 : x.name = z.name
  case neg =>
    have b1 : (x.name == z.name) = false := beq_eq_false_iff_ne.2 a1
    have HS : Hid (Q = false) := Lib.hid (by rw [← hq0]; unfold sameM; simp [a1])
    clear hq0
    go_wp2_with fail
    go_ret
    exact ⟨by rw [HS.out]; first | rfl | simp, HB0.out _ ZH.out⟩
  have b1 : (x.name == z.name) = true := beq_iff_eq.2 a1
  by_cases a2 : x.prim = z.prim
  case neg =>
    have b2 : (x.prim == z.prim) = false := beq_eq_false_iff_ne.2 a2
    have HS : Hid (Q = false) := Lib.hid (by rw [← hq0]; unfold sameM; simp [a2])
    clear hq0
    go_wp2_with fail
    go_ret
    exact ⟨by rw [HS.out]; first | rfl | simp, HB0.out _ ZH.out⟩
  have b2 : (x.prim == z.prim) = true := beq_iff_eq.2 a2
  have A1 := Lib.hid a1
  have A2 := Lib.hid a2
  clear a1 a2
  cases q1
  case false =>
    have HS : Hid (Q = false) := Lib.hid (by rw [← hq0]; unfold sameM; simp [hq1])
    clear hq0 hq1 hq2 hq3
    go_wp2_with fail
    refine (HP.out _ ZH.out).mono ?_; rintro e w3 ⟨rfl, qn, rfl⟩
    go_wp2_with fail
    go_ret
    exact ⟨by rw [HS.out]; first | rfl | simp, HB0.out _ ⟨_, by first | rfl | exact World.drewN_drewN _ _ _⟩⟩
  cases q2
  case false =>
    have HS : Hid (Q = false) := Lib.hid (by rw [← hq0]; unfold sameM; simp [hq2])
    clear hq0 hq1 hq2 hq3
    go_wp2_with fail
    refine (HP.out _ ZH.out).mono ?_; rintro e w3 ⟨rfl, qn, rfl⟩
    go_wp2_with fail
    refine (HT.out _ ⟨_, by first | rfl | exact World.drewN_drewN _ _ _⟩).mono ?_; rintro e w4 ⟨rfl, qm, rfl⟩
    go_wp2_with fail
    go_ret
    exact ⟨by rw [HS.out]; first | rfl | simp, HB0.out _ ⟨_, by first | rfl | exact World.drewN_drewN _ _ _⟩⟩
  have HS : Hid (Q = q3) := Lib.hid (by rw [← hq0]; unfold sameM; simp [A1.out, A2.out, hq3, of_decide_eq_true hq1, of_decide_eq_true hq2])
  clear hq0 hq1 hq2 hq3
  go_wp2_with fail
  refine (HP.out _ ZH.out).mono ?_; rintro e w3 ⟨rfl, qn, rfl⟩
  go_wp2_with fail
  refine (HT.out _ ⟨_, by first | rfl | exact World.drewN_drewN _ _ _⟩).mono ?_; rintro e w4 ⟨rfl, qm, rfl⟩
  go_wp2_with fail
  refine (HKD.out _ ⟨_, by first | rfl | exact World.drewN_drewN _ _ _⟩).mono ?_; rintro e w5 ⟨rfl, qk, rfl⟩
  go_wp2_with fail
  go_ret
  exact ⟨by rw [HS.out]; first | rfl | simp, HB0.out _ ⟨_, by first | rfl | (rw [World.drewN_drewN, World.drewN_drewN]) | exact World.drewN_drewN _ _ _⟩⟩
end Tr
end Go.Proofs.YtfbhokdcnjekiaaGreatDoor
namespace Go.Proofs.YtfbhokdcnjekiaaGreatDoor
open Go.RowKit
namespace Tr
open Bs Sm
/-- The list's parts that are held against each node. -/
def LRd (N : Nat → Prop) (w : World) (lv : Value) (L : List Nd) : Prop := ∃ a cap, lv = .slice a L.length cap ∧ ∀ i x, L[i]? = some x → ∃ g off, a = some ⟨g, off, none⟩ ∧ g < w.heap.size ∧ ¬ N g ∧
  w.cell? ⟨g, off + i * 6, none⟩ = some (.int .i64 x.kind) ∧ w.cell? ⟨g, off + i * 6 + 1, none⟩ = some (.string ⟨x.name.toArray⟩) ∧ w.cell? ⟨g, off + i * 6 + 2, none⟩ = some (.int .i64 x.num)
theorem But.mono {X Y : Nat → Prop} {w w' : World} (h : But X w w') (hx : ∀ b, X b → Y b) : But Y w w' := ⟨h.os, h.tape, h.output, h.size, fun b hl hn => h.block b hl (fun e => hn (hx b e))⟩
theorem LRd.but {N : Nat → Prop} {w w' : World} {lv : Value} {L : List Nd} (h : LRd N w lv L) (hb : But N w w') : LRd N w' lv L := by
  obtain ⟨a, cap, rfl, h⟩ := h
  refine ⟨a, cap, rfl, fun i x hx => ?_⟩
  obtain ⟨g, off, h1, h2, h3, h4, h5, h6⟩ := h i x hx
  have hc : ∀ j, w'.cell? ⟨g, j, none⟩ = w.cell? ⟨g, j, none⟩ := fun j => hb.kp.cell h3 h2 j
  exact ⟨g, off, h1, Nat.lt_of_lt_of_le h2 hb.size, h3, (hc _).trans h4, (hc _).trans h5, (hc _).trans h6⟩
end Tr
end Go.Proofs.YtfbhokdcnjekiaaGreatDoor
namespace Go.Proofs.YtfbhokdcnjekiaaGreatDoor
open Go.RowKit
namespace Hd
end Hd
namespace Tr
open Bs Sm
/-- A row of nodes in a block in which nothing lies that is within them. -/
def Sep (S : Nat → Prop) (w : World) (bv : Value) (l : List Nd) : Prop := ∃ (vl : VL) (a : Option Addr) (cap : Nat), bv = .slice a vl.length cap ∧ vl.length ≤ cap ∧ cap ≤ maxLen ∧ (a = none → cap = 0) ∧ vl.map (·.1) = l ∧
  (0 < vl.length → ∃ g, a = some ⟨g, 0, none⟩ ∧ S g ∧ g < w.heap.size ∧ (∀ i, w.frozen? ⟨g, i, none⟩ = false) ∧ (∀ i x, vl[i]? = some x → Row w g (0 + i * 6) x.1 x.2.1 x.2.2) ∧ ∀ x ∈ vl, Tree (fun b => S b ∧ b ≠ g) w x.2.1 x.1.kids ∧ Rd (fun b => S b ∧ b ≠ g) strV w x.2.2 x.1.names)
section
variable {S S' : Nat → Prop} {w w' : World} {bv : Value} {l : List Nd}
theorem Sep.kp (h : Sep S w bv l) (hk : Kp S w w') : Sep S w' bv l := by
  obtain ⟨vl, a, cap, h1, h2, h3, h4, h5, h6⟩ := h
  refine ⟨vl, a, cap, h1, h2, h3, h4, h5, fun hl => ?_⟩
  obtain ⟨g, k1, k2, k3, kf, k4, k5⟩ := h6 hl
  have hk' : Kp (fun b => S b ∧ b ≠ g) w w' := ⟨hk.1, fun b hb => hk.2 b hb.1⟩
  exact ⟨g, k1, k2, Nat.lt_of_lt_of_le k3 hk.1, fun i => (World.frozen?_of_block (hk.2 g k2 k3)).trans (kf i), fun i x hx => (k4 i x hx).kp (fun j => hk.cell k2 k3 j), fun x hx => ⟨(k5 x hx).1.kp hk', (k5 x hx).2.kp hk'⟩⟩
theorem Sep.mono (h : Sep S w bv l) (hs : ∀ b, S b → b < w.heap.size → S' b) : Sep S' w bv l := by
  obtain ⟨vl, a, cap, h1, h2, h3, h4, h5, h6⟩ := h
  refine ⟨vl, a, cap, h1, h2, h3, h4, h5, fun hl => ?_⟩
  obtain ⟨g, k1, k2, k3, kf, k4, k5⟩ := h6 hl
  exact ⟨g, k1, hs g k2 k3, k3, kf, k4, fun x hx => ⟨(k5 x hx).1.mono (fun b hb hl => ⟨hs b hb.1 hl, hb.2⟩), (k5 x hx).2.mono (fun b hb hl => ⟨hs b hb.1 hl, hb.2⟩)⟩⟩
theorem Sep.tree (h : Sep S w bv l) : Tree S w bv l := by
  obtain ⟨vl, a, cap, rfl, h2, h3, h4, rfl, h6⟩ := h
  refine .mk vl a cap h2 h3 h4 (fun hl => ?_) (fun x hx => ?_) (fun x hx => ?_)
  · obtain ⟨g, k1, k2, k3, kf, k4, k5⟩ := h6 hl
    exact ⟨g, 0, k1, k2, k3, k4⟩
  · obtain ⟨g, k1, k2, k3, kf, k4, k5⟩ := h6 (List.length_pos_of_mem hx)
    exact (k5 x hx).1.mono (fun b hb _ => hb.1)
  · obtain ⟨g, k1, k2, k3, kf, k4, k5⟩ := h6 (List.length_pos_of_mem hx)
    exact (k5 x hx).2.mono (fun b hb _ => hb.1)
/-- What is one's own is so. -/
theorem OwnT.sep {T B : Nat} (h : OwnT T B S w bv l) (hs : ∀ b, bv.ownBlock = some b → S b) : Sep S w bv l := by
  obtain ⟨vl, rfl, h2, h3⟩ := h
  have hlt := h2.lt
  have h0 := h2
  rcases h2.2 with ⟨rfl, hn⟩ | ⟨g, cap, cur, rfl, hb, hg, hnc, hcm, _⟩
  · obtain rfl : vl = [] := List.eq_nil_of_length_eq_zero hn
    exact ⟨[], none, 0, rfl, Nat.le_refl _, by unfold maxLen; omega, fun _ => rfl, rfl, fun h => by simp at h⟩
  · refine ⟨vl, _, cap, rfl, hnc, hcm, (fun h => by cases h), rfl, fun _ => ⟨g, rfl, hs g rfl, (hlt g rfl).2, fun i => by simp [World.frozen?, hg], fun i x hx => ?_, fun x hx => ?_⟩⟩
    · have H : ∀ j u, (ndC x.1 x.2.1 x.2.2)[j]? = some u → w.cell? ⟨g, 0 + i * 6 + j, none⟩ = some u := fun j u hj => by
        have hc := World.ownsRow.cells h0 (g := g) rfl (i * 6 + j) u (flatN_get vl i x j u hx hj)
        have e : (⟨g, 0, none⟩ : Addr).add (i * 6 + j) = ⟨g, 0 + i * 6 + j, none⟩ := by unfold Addr.add; split <;> simp_all
        rw [e] at hc
        exact hc
      exact ⟨H 0 _ rfl, H 1 _ rfl, H 2 _ rfl, H 3 _ rfl, H 4 _ rfl, H 5 _ rfl⟩
    · have hne : ∀ b, (S b ∧ (Value.slice (some ⟨g, 0, none⟩) vl.length cap).ownBlock ≠ some b) → S b ∧ b ≠ g := fun b hb => ⟨hb.1, fun e => hb.2 (by rw [e]; rfl)⟩
      exact ⟨(h3 x hx).1.mono (fun b hb _ => hne b hb), (h3 x hx).2.mono (fun b hb _ => hne b hb)⟩
end
theorem set_far (w : World) (g j : Nat) (z : Value) {b i : Nat} (h : ¬ (b = g ∧ i = j)) : (w.setCell ⟨g, j, none⟩ z).cell? ⟨b, i, none⟩ = w.cell? ⟨b, i, none⟩ :=
  World.cell?_setCell_other _ _ _ _ (by intro e; simp only [Addr.mk.injEq] at e; exact h ⟨by omega, by omega⟩)
theorem cell_ne {w : World} {b i g j : Nat} {u v z : Value} (h : w.cell? ⟨b, i, none⟩ = some u) (hg : w.cell? ⟨g, j, none⟩ = some v) (hn : u ≠ v) : (w.setCell ⟨g, j, none⟩ z).cell? ⟨b, i, none⟩ = some u := by
  have hne : ¬ (b = g ∧ i = j) := fun ⟨e1, e2⟩ => by subst e1; subst e2; rw [h] at hg; cases hg; exact hn rfl
  rw [← h]
  exact set_far w g j z hne
/-- Texts stay where a number is stored anew. -/
theorem Rd.int {S : Nat → Prop} {w : World} {v : Value} {l : List Bytes} {g j : Nat} {a : Int} {z : Value} (h : Rd S strV w v l) (hg : w.cell? ⟨g, j, none⟩ = some (.int .i64 a)) : Rd S strV (w.setCell ⟨g, j, none⟩ z) v l := by
  obtain ⟨a0, cap, h1, h2, h3, h5, h4⟩ := h
  refine ⟨a0, cap, h1, h2, h3, h5, fun hl => ?_⟩
  obtain ⟨b, off, k1, k0, k2, k3⟩ := h4 hl
  exact ⟨b, off, k1, k0, by simpa [World.setCell] using k2, fun i x hx => cell_ne (k3 i x hx) hg (fun e => by cases e)⟩
/-- A method's parts in memory, its row in a block of its own. -/
structure XAt (S : Nat → Prop) (w : World) (m : Mt) (pv tv bv : Value) : Prop where
  params : Rd S strV w pv m.params
  temps : Rd S strV w tv m.temps
  body : Sep S w bv m.body
section
variable {S S' : Nat → Prop} {w w' : World} {m : Mt} {pv tv bv : Value}
theorem XAt.kp (h : XAt S w m pv tv bv) (hk : Kp S w w') : XAt S w' m pv tv bv := ⟨h.params.kp hk, h.temps.kp hk, h.body.kp hk⟩
theorem XAt.bel (h : XAt S w m pv tv bv) (hb : Below w.heap.size w w') : XAt S w' m pv tv bv := h.kp (Kp.of hb)
theorem XAt.mono (h : XAt S w m pv tv bv) (hs : ∀ b, S b → b < w.heap.size → S' b) : XAt S' w m pv tv bv := ⟨h.params.mono hs, h.temps.mono hs, h.body.mono hs⟩
theorem XAt.two {k : Nat} (h : XAt S w m pv tv bv) (ht : Two k k w w') (hS : ∀ b, S b → b ≠ k) : XAt S w' m pv tv bv := h.kp ⟨Nat.le_of_eq ht.size.symm, fun b hb _ => ht.block b (hS b hb) (hS b hb)⟩
end
theorem XAt.but {X S S' : Nat → Prop} {w w' : World} {m : Mt} {pv tv bv : Value} (h : XAt S w m pv tv bv) (hb : But X w w') (hS : ∀ b, S b → b < w.heap.size → ¬ X b ∧ S' b) : XAt S' w' m pv tv bv :=
  ((h.mono (S' := fun b => ¬ X b ∧ S' b) hS).kp ⟨hb.size, fun b hx hl => hb.block b hl hx.1⟩).mono (fun b hb _ => hb.2)
theorem MtAt.but {X S S' : Nat → Prop} {w w' : World} {m : Mt} {pv tv bv : Value} (h : MtAt S w m pv tv bv) (hb : But X w w') (hS : ∀ b, S b → b < w.heap.size → ¬ X b ∧ S' b) : MtAt S' w' m pv tv bv :=
  ((h.mono (S' := fun b => ¬ X b ∧ S' b) hS).kp ⟨hb.size, fun b hx hl => hb.block b hl hx.1⟩).mono (fun b hb _ => hb.2)
end Tr
end Go.Proofs.YtfbhokdcnjekiaaGreatDoor
