/- Are two methods the same: the program's walk and the reference's Same (printed by gen_trsn.py). -/
import Derived.Test.YtfbhokdcnjekiaaGreatDoorTrSm
set_option linter.unusedVariables false
namespace Go.Proofs.YtfbhokdcnjekiaaGreatDoor
open Go.RowKit
namespace Tr
open Bs Sm
theorem bel_on {w W w5 : World} (h0 : Below w.heap.size w W) (h5 : Below W.heap.size W w5) : Below w.heap.size w w5 := h0.trans (h5.mono h0.size)
/-- What same does. -/
def SameC (S S' : Nat → Prop) (x z : Nd) : Prop := ∀ xka xkc xna xnc zka zkc zna znc w, Tree S w (.slice xka x.kids.length xkc) x.kids → Rd S strV w (.slice xna x.names.length xnc) x.names →
  Tree S' w (.slice zka z.kids.length zkc) z.kids → Rd S' strV w (.slice zna z.names.length znc) z.names → Calls Tryz.prog 57 #[(ndV x (.slice xka x.kids.length xkc) (.slice xna x.names.length xnc)), (ndV z (.slice zka z.kids.length zkc) (.slice zna z.names.length znc))] w (Back (.bool (sameN x z)) w)
/-- What EqualFunc does with it. -/
def EqC (S S' : Nat → Prop) (a b : List Nd) : Prop := ∀ va vb w, Tree S w va a → Tree S' w vb b → Calls Tryz.prog 56 #[va, vb, .func (.func 57) #[] #[]] w (Back (.bool (sameL a b)) w)
set_option maxRecDepth 100000 in
set_option maxHeartbeats 3200000 in
theorem same_step {S S' : Nat → Prop} (x z : Nd) (IH : EqC S S' x.kids z.kids) : SameC S S' x z := by
  intro xka xkc xna xnc zka zkc zna znc w hxt hxn hzt hzn
  have hX := alloc_bel w (.cells #[.int .i64 x.kind, .string ⟨x.name.toArray⟩, .int .i64 x.num, .slice xka x.kids.length xkc, .slice xna x.names.length xnc, .int .i64 x.at_] 50)
  have hbx := Blk.made (T := 50) (cs := #[.int .i64 x.kind, .string ⟨x.name.toArray⟩, .int .i64 x.num, .slice xka x.kids.length xkc, .slice xna x.names.length xnc, .int .i64 x.at_]) w
  obtain ⟨w1, hw1⟩ : ∃ v, w.alloc (.cells #[.int .i64 x.kind, .string ⟨x.name.toArray⟩, .int .i64 x.num, .slice xka x.kids.length xkc, .slice xna x.names.length xnc, .int .i64 x.at_] 50) = v := ⟨_, rfl⟩
  rw [hw1] at hX hbx
  have hY := alloc_bel w1 (.cells #[.int .i64 z.kind, .string ⟨z.name.toArray⟩, .int .i64 z.num, .slice zka z.kids.length zkc, .slice zna z.names.length znc, .int .i64 z.at_] 50)
  have hbz := Blk.made (T := 50) (cs := #[.int .i64 z.kind, .string ⟨z.name.toArray⟩, .int .i64 z.num, .slice zka z.kids.length zkc, .slice zna z.names.length znc, .int .i64 z.at_]) w1
  obtain ⟨w2, hw2⟩ : ∃ v, w1.alloc (.cells #[.int .i64 z.kind, .string ⟨z.name.toArray⟩, .int .i64 z.num, .slice zka z.kids.length zkc, .slice zna z.names.length znc, .int .i64 z.at_] 50) = v := ⟨_, rfl⟩
  rw [hw2] at hY hbz
  have hsz : w1.heap.size = w.heap.size + 1 := by rw [← hw1]; simp
  rw [hsz] at hbz
  have n1 : ¬ w.heap.size = w.heap.size + 1 := by omega
  have n2 : ¬ w.heap.size + 1 = w.heap.size := by omega
  have hbx2 := hbx.below hY hbx.lt
  have hXY := hX.trans (hY.mono hX.size)
  obtain ⟨Q, hq0⟩ : ∃ q, sameN x z = q := ⟨_, rfl⟩
  rw [hq0]
  obtain ⟨q1, hq1⟩ : ∃ q, decide (x.names = z.names) = q := ⟨_, rfl⟩
  obtain ⟨q2, hq2⟩ : ∃ q, sameL x.kids z.kids = q := ⟨_, rfl⟩
  have HNM : Hid (Calls Tryz.prog 55 #[.slice xna x.names.length xnc, .slice zna z.names.length znc] w2 (fun e w' => e = .returned (.bool q1) ∧ ∃ q, w' = w2.drewN q)) := Lib.hid (by
    have := equal_any _ _ _ _ w2 (hxn.below hXY) (hzn.below hXY)
    rwa [hq1] at this)
  have HKD : Hid (∀ n, Calls Tryz.prog 56 #[.slice xka x.kids.length xkc, .slice zka z.kids.length zkc, .func (.func 57) #[] #[]] (w2.drewN n) (Back (.bool q2) (w2.drewN n))) := Lib.hid (fun n => by
    have hn := hXY.trans (below_dn (Below.refl _ w2) n |>.mono hXY.size)
    have := IH _ _ (w2.drewN n) (hxt.bel hn) (hzt.bel hn)
    rwa [hq2] at this)
  have HB0 : Hid (Below w.heap.size w w2) := Lib.hid hXY
  unfold ndV
  have HW1 := Lib.hid hw1
  have HW2 := Lib.hid hw2
  have c0 : w2.cell? ⟨w.heap.size, 0, none⟩ = some (.int .i64 x.kind) := hbx2.c 0 _ rfl
  have c1 : w2.cell? ⟨w.heap.size, 1, none⟩ = some (.string ⟨x.name.toArray⟩) := hbx2.c 1 _ rfl
  have c2 : w2.cell? ⟨w.heap.size, 2, none⟩ = some (.int .i64 x.num) := hbx2.c 2 _ rfl
  have c3 : w2.cell? ⟨w.heap.size, 3, none⟩ = some (.slice xka x.kids.length xkc) := hbx2.c 3 _ rfl
  have c4 : w2.cell? ⟨w.heap.size, 4, none⟩ = some (.slice xna x.names.length xnc) := hbx2.c 4 _ rfl
  have d0 : w2.cell? ⟨w.heap.size + 1, 0, none⟩ = some (.int .i64 z.kind) := hbz.c 0 _ rfl
  have d1 : w2.cell? ⟨w.heap.size + 1, 1, none⟩ = some (.string ⟨z.name.toArray⟩) := hbz.c 1 _ rfl
  have d2 : w2.cell? ⟨w.heap.size + 1, 2, none⟩ = some (.int .i64 z.num) := hbz.c 2 _ rfl
  have d3 : w2.cell? ⟨w.heap.size + 1, 3, none⟩ = some (.slice zka z.kids.length zkc) := hbz.c 3 _ rfl
  have d4 : w2.cell? ⟨w.heap.size + 1, 4, none⟩ = some (.slice zna z.names.length znc) := hbz.c 4 _ rfl
  clear hsz IH hxt hxn hzt hzn hX hbx hw1 hY hbz hw2 hbx2 hXY
  go_enter Tryz.func57, Tryz.ntmps57
  go_upto_region 1 with fail
  rw [HW1.out, HW2.out]
  by_cases a1 : x.kind = z.kind
  case neg =>
    have b1 : (x.kind == z.kind) = false := beq_eq_false_iff_ne.2 a1
    have HS : Hid (Q = false) := Lib.hid (by rw [← hq0]; unfold sameN; simp [a1])
    clear hq0
    go_wp2_with fail
    go_ret
    exact ⟨by rw [HS.out]; first | rfl | simp, HB0.out⟩
  have b1 : (x.kind == z.kind) = true := beq_iff_eq.2 a1
  by_cases a2 : x.name = z.name
  case neg =>
    have b2 : (x.name == z.name) = false := beq_eq_false_iff_ne.2 a2
    have HS : Hid (Q = false) := Lib.hid (by rw [← hq0]; unfold sameN; simp [a2])
    clear hq0
    go_wp2_with fail
    go_ret
    exact ⟨by rw [HS.out]; first | rfl | simp, HB0.out⟩
  have b2 : (x.name == z.name) = true := beq_iff_eq.2 a2
  by_cases a3 : x.num = z.num
  case neg =>
    have b3 : (x.num == z.num) = false := beq_eq_false_iff_ne.2 a3
    have HS : Hid (Q = false) := Lib.hid (by rw [← hq0]; unfold sameN; simp [a3])
    clear hq0
    go_wp2_with fail
    go_ret
    exact ⟨by rw [HS.out]; first | rfl | simp, HB0.out⟩
  have b3 : (x.num == z.num) = true := beq_iff_eq.2 a3
  cases q1
  case false =>
    have HS : Hid (Q = false) := Lib.hid (by rw [← hq0]; unfold sameN; simp [hq1])
    go_wp2_with fail
    refine HNM.out.mono ?_; rintro e w3 ⟨rfl, qn, rfl⟩
    go_wp2_with fail
    go_ret
    exact ⟨by rw [HS.out]; rfl, HB0.out.trans ((below_dn (Below.refl _ w2) _).mono HB0.out.size)⟩
  have HS : Hid (Q = q2) := Lib.hid (by rw [← hq0]; unfold sameN; simp [a1, a2, a3, hq2, of_decide_eq_true hq1])
  clear hq0 hq1 hq2
  go_wp2_with fail
  refine HNM.out.mono ?_; rintro e w3 ⟨rfl, qn, rfl⟩
  go_wp2_with fail
  refine (HKD.out _).mono ?_; rintro e w4 ⟨rfl, hb4⟩
  have HB4 := Lib.hid (HB0.out.trans (((below_dn (Below.refl _ w2) _).trans hb4).mono HB0.out.size))
  clear hb4
  go_wp2_with fail
  go_ret
  exact ⟨by rw [HS.out]; rfl, HB4.out⟩
set_option maxRecDepth 100000 in
set_option maxHeartbeats 3200000 in
theorem eq_step {S S' : Nat → Prop} (a b : List Nd) (IH : ∀ x, x ∈ a → ∀ z, SameC S S' x z) : EqC S S' a b := by
  intro va vb w ha hb
  obtain ⟨aa, ac, rfl, ha1, ha2⟩ := ha.form
  obtain ⟨ba, bc, rfl, hb1, hb2⟩ := hb.form
  unfold maxLen at ha2 hb2
  obtain ⟨n, hn⟩ : ∃ n, a.length = n := ⟨_, rfl⟩
  obtain ⟨m, hm⟩ : ∃ n, b.length = n := ⟨_, rfl⟩
  rw [hn] at ha ha1
  rw [hm] at hb hb1
  rw [hn, hm]
  have HN := Lib.hid hn
  have HM := Lib.hid hm
  have HA := Lib.hid ha
  have HB := Lib.hid hb
  replace IH := Lib.hid IH
  have hen : Ent 57 := enters_of Tryz.func57 (by kernel_rfl) rfl
  unfold Ent at hen
  clear ha hb hn hm
  by_cases hnm : n = m
  case neg =>
    have b0 : ((n : Int) == (m : Int)) = false := beq_eq_false_iff_ne.2 (by omega)
    have b1 : ((n : Int) != (m : Int)) = true := by simp [bne, b0]
    have HD : Hid (sameL a b = false) := Lib.hid (by
      cases h : sameL a b with
      | false => rfl
      | true => exact absurd (HN.out.symm.trans ((sameL_len a b h).trans HM.out)) hnm)
    clear hnm
    go_enter Tryz.func56, Tryz.ntmps56
    go_wp2_with fail
    go_ret
    exact ⟨by rw [HD.out]; rfl, Below.refl _ _⟩
  subst hnm
  obtain ⟨Q, hQ⟩ : ∃ q, sameL a b = q := ⟨_, rfl⟩
  rw [hQ]
  have HQ : Hid (Q = sameL (a.drop 0) (b.drop 0)) := Lib.hid (by rw [← hQ]; simp)
  clear hQ
  go_enter Tryz.func56, Tryz.ntmps56
  go_wp2_with fail
  go_loopw [17] (fun y wr => ∃ k : Nat, y = .int .i64 (k : Int) ∧ k ≤ n ∧ Below w.heap.size w wr ∧ Hid (Q = sameL (a.drop k) (b.drop k))) (fun y _ => n - (intOf y).toNat)
  case atStart => exact ⟨0, rfl, Nat.zero_le _, Below.refl _ _, HQ⟩
  case round =>
    obtain ⟨k, rfl, hk, hbel, hp⟩ := hrel
    by_cases hkn : k < n
    · have hdec : decide ((k : Int) < (n : Int)) = true := by simpa using hkn
      have hkw : IntKind.i64.wrap ((k : Int) + 1) = (k : Int) + 1 := IntWalk.i64_in _ (by omega)
      obtain ⟨g1, o1, x, xka, xkc, xna, xnc, hx0, hx, hg1, -, ⟨c0, c1, c2, c3, c4, c5⟩, hkt1, hnt1⟩ := (HA.out.bel hbel).nth k hkn
      obtain ⟨g2, o2, z, zka, zkc, zna, znc, hz0, hz, hg2, -, ⟨d0, d1, d2, d3, d4, d5⟩, hkt2, hnt2⟩ := (HB.out.bel hbel).nth k hkn
      subst hx0
      subst hz0
      have hsm : sameL (a.drop k) (b.drop k) = (sameN x z && sameL (a.drop (k + 1)) (b.drop (k + 1))) := by rw [drop_at hx, drop_at hz, sameL_cons]
      have hkn1 : (k : Int) < (n : Int) := by omega
      have hk0 : 0 ≤ (k : Int) := by omega
      have hX := alloc_bel wr (.cells #[.int .i64 x.kind, .string ⟨x.name.toArray⟩, .int .i64 x.num, .slice xka x.kids.length xkc, .slice xna x.names.length xnc, .int .i64 x.at_] 50)
      have hbx := Blk.made (T := 50) (cs := #[.int .i64 x.kind, .string ⟨x.name.toArray⟩, .int .i64 x.num, .slice xka x.kids.length xkc, .slice xna x.names.length xnc, .int .i64 x.at_]) wr
      obtain ⟨w1, hw1⟩ : ∃ v, wr.alloc (.cells #[.int .i64 x.kind, .string ⟨x.name.toArray⟩, .int .i64 x.num, .slice xka x.kids.length xkc, .slice xna x.names.length xnc, .int .i64 x.at_] 50) = v := ⟨_, rfl⟩
      rw [hw1] at hX hbx
      have hY := alloc_bel w1 (.cells #[.int .i64 z.kind, .string ⟨z.name.toArray⟩, .int .i64 z.num, .slice zka z.kids.length zkc, .slice zna z.names.length znc, .int .i64 z.at_] 50)
      have hbz := Blk.made (T := 50) (cs := #[.int .i64 z.kind, .string ⟨z.name.toArray⟩, .int .i64 z.num, .slice zka z.kids.length zkc, .slice zna z.names.length znc, .int .i64 z.at_]) w1
      obtain ⟨w2, hw2⟩ : ∃ v, w1.alloc (.cells #[.int .i64 z.kind, .string ⟨z.name.toArray⟩, .int .i64 z.num, .slice zka z.kids.length zkc, .slice zna z.names.length znc, .int .i64 z.at_] 50) = v := ⟨_, rfl⟩
      rw [hw2] at hY hbz
      have hbx2 := hbx.below hY hbx.lt
      have hXY := hX.trans (hY.mono hX.size)
      have hxm := List.mem_of_getElem? hx
      obtain ⟨q1, hq1⟩ : ∃ q, sameN x z = q := ⟨_, rfl⟩
      rw [hq1] at hsm
      have HC : Hid (Calls Tryz.prog 57 #[(ndV x (.slice xka x.kids.length xkc) (.slice xna x.names.length xnc)), (ndV z (.slice zka z.kids.length zkc) (.slice zna z.names.length znc))] w2 (Back (.bool q1) w2)) := Lib.hid (by
        have := IH.out x hxm z xka xkc xna xnc zka zkc zna znc w2 (hkt1.bel hXY) (hnt1.below hXY) (hkt2.bel hXY) (hnt2.below hXY)
        rwa [hq1] at this)
      unfold ndV at HC
      have HB0 : Hid (Below w.heap.size w w2) := Lib.hid (hbel.trans (hXY.mono hbel.size))
      have HW1 := Lib.hid hw1
      have HW2 := Lib.hid hw2
      have n1 : ¬ g2 = wr.heap.size := by omega
      have n2 : ¬ wr.heap.size = g2 := by omega
      have hsz : w1.heap.size = wr.heap.size + 1 := by rw [← hw1]; simp
      rw [hsz] at hbz
      have n3 : ¬ wr.heap.size = wr.heap.size + 1 := by omega
      have n4 : ¬ wr.heap.size + 1 = wr.heap.size := by omega
      have e0 : w2.cell? ⟨wr.heap.size, 0, none⟩ = some (.int .i64 x.kind) := hbx2.c 0 _ rfl
      have e1 : w2.cell? ⟨wr.heap.size, 1, none⟩ = some (.string ⟨x.name.toArray⟩) := hbx2.c 1 _ rfl
      have e2 : w2.cell? ⟨wr.heap.size, 2, none⟩ = some (.int .i64 x.num) := hbx2.c 2 _ rfl
      have e3 : w2.cell? ⟨wr.heap.size, 3, none⟩ = some (.slice xka x.kids.length xkc) := hbx2.c 3 _ rfl
      have e4 : w2.cell? ⟨wr.heap.size, 4, none⟩ = some (.slice xna x.names.length xnc) := hbx2.c 4 _ rfl
      have e5 : w2.cell? ⟨wr.heap.size, 5, none⟩ = some (.int .i64 x.at_) := hbx2.c 5 _ rfl
      have f0 : w2.cell? ⟨wr.heap.size + 1, 0, none⟩ = some (.int .i64 z.kind) := hbz.c 0 _ rfl
      have f1 : w2.cell? ⟨wr.heap.size + 1, 1, none⟩ = some (.string ⟨z.name.toArray⟩) := hbz.c 1 _ rfl
      have f2 : w2.cell? ⟨wr.heap.size + 1, 2, none⟩ = some (.int .i64 z.num) := hbz.c 2 _ rfl
      have f3 : w2.cell? ⟨wr.heap.size + 1, 3, none⟩ = some (.slice zka z.kids.length zkc) := hbz.c 3 _ rfl
      have f4 : w2.cell? ⟨wr.heap.size + 1, 4, none⟩ = some (.slice zna z.names.length znc) := hbz.c 4 _ rfl
      have f5 : w2.cell? ⟨wr.heap.size + 1, 5, none⟩ = some (.int .i64 z.at_) := hbz.c 5 _ rfl
      have HSM := Lib.hid hsm
      clear hsz hx hz hsm hbel hkt1 hkt2 hnt1 hnt2 hX hbx hY hbz hbx2 hXY hxm hq1 hw1 hw2
      go_upto_region 7 with fail
      rw [HW1.out, HW2.out]
      cases q1
      case false =>
        have HS : Hid (Q = false) := Lib.hid (by rw [hp.out, HSM.out]; rfl)
        go_wp2_with fail
        refine HC.out.mono ?_; rintro e w4 ⟨rfl, hb4⟩
        have HB4 := Lib.hid (HB0.out.trans (hb4.mono HB0.out.size))
        clear hb4
        go_wp2_with fail
        go_ret
        exact ⟨by rw [HS.out]; rfl, HB4.out⟩
      have HS : Hid (Q = sameL (a.drop (k + 1)) (b.drop (k + 1))) := Lib.hid (by rw [hp.out, HSM.out]; simp)
      go_wp2_with fail
      refine HC.out.mono ?_; rintro e w4 ⟨rfl, hb4⟩
      have HB4 := HB0.out.trans (hb4.mono HB0.out.size)
      clear hb4
      go_wp2_with fail
      exact ⟨⟨k + 1, by simp, by omega, HB4, HS⟩, by simp only [intOf]; omega⟩
    · obtain rfl : k = n := by omega
      have hdec : decide ((k : Int) < (k : Int)) = false := by simp
      have HS : Hid (Q = true) := Lib.hid (by rw [hp.out, List.drop_eq_nil_of_le (by rw [HN.out]; exact Nat.le_refl _), List.drop_eq_nil_of_le (by rw [HM.out]; exact Nat.le_refl _), sameL_nil])
      have HBE := Lib.hid hbel
      clear hp hbel
      go_wp2_with fail
      go_ret
      exact ⟨by rw [HS.out]; rfl, HBE.out⟩
theorem eq_all {S S' : Nat → Prop} : ∀ (m : Nat) (a b : List Nd), cntL a < m → EqC S S' a b
  | 0, a, b, h => by omega
  | m + 1, a, b, h => eq_step a b (fun x hx z => same_step x z (eq_all m x.kids z.kids (by have := cnt_mem hx; omega)))
theorem eqf_any {S S' : Nat → Prop} (a b : List Nd) : EqC S S' a b := eq_all (cntL a + 1) a b (by omega)
set_option maxRecDepth 100000 in
set_option maxHeartbeats 3200000 in
theorem RSame_any {S S' : Nat → Prop} (x z : Mt) (pv tv bv pv' tv' bv' : Value) (w : World) (hx : MtAt S w x pv tv bv) (hz : MtAt S' w z pv' tv' bv') :
    Calls Tryz.prog 18 #[mtV x pv tv bv, mtV z pv' tv' bv'] w (Back (.bool (sameM x z)) w) := by
  obtain ⟨xpa, xpc, rfl, -, -⟩ := hx.params.form
  obtain ⟨xta, xtc, rfl, -, -⟩ := hx.temps.form
  obtain ⟨xba, xbc, rfl, -, -⟩ := hx.body.form
  obtain ⟨zpa, zpc, rfl, -, -⟩ := hz.params.form
  obtain ⟨zta, ztc, rfl, -, -⟩ := hz.temps.form
  obtain ⟨zba, zbc, rfl, -, -⟩ := hz.body.form
  have hX := alloc_bel w (.cells #[.string ⟨x.name.toArray⟩, .slice xpa x.params.length xpc, .slice xta x.temps.length xtc, .int .i64 x.prim, .slice xba x.body.length xbc, .int .i64 x.at_] 25)
  have hbx := Blk.made (T := 25) (cs := #[.string ⟨x.name.toArray⟩, .slice xpa x.params.length xpc, .slice xta x.temps.length xtc, .int .i64 x.prim, .slice xba x.body.length xbc, .int .i64 x.at_]) w
  obtain ⟨w1, hw1⟩ : ∃ v, w.alloc (.cells #[.string ⟨x.name.toArray⟩, .slice xpa x.params.length xpc, .slice xta x.temps.length xtc, .int .i64 x.prim, .slice xba x.body.length xbc, .int .i64 x.at_] 25) = v := ⟨_, rfl⟩
  rw [hw1] at hX hbx
  have hY := alloc_bel w1 (.cells #[.string ⟨z.name.toArray⟩, .slice zpa z.params.length zpc, .slice zta z.temps.length ztc, .int .i64 z.prim, .slice zba z.body.length zbc, .int .i64 z.at_] 25)
  have hbz := Blk.made (T := 25) (cs := #[.string ⟨z.name.toArray⟩, .slice zpa z.params.length zpc, .slice zta z.temps.length ztc, .int .i64 z.prim, .slice zba z.body.length zbc, .int .i64 z.at_]) w1
  obtain ⟨w2, hw2⟩ : ∃ v, w1.alloc (.cells #[.string ⟨z.name.toArray⟩, .slice zpa z.params.length zpc, .slice zta z.temps.length ztc, .int .i64 z.prim, .slice zba z.body.length zbc, .int .i64 z.at_] 25) = v := ⟨_, rfl⟩
  rw [hw2] at hY hbz
  have hsz : w1.heap.size = w.heap.size + 1 := by rw [← hw1]; simp
  rw [hsz] at hbz
  have n1 : ¬ w.heap.size = w.heap.size + 1 := by omega
  have n2 : ¬ w.heap.size + 1 = w.heap.size := by omega
  have hbx2 := hbx.below hY hbx.lt
  have hXY := hX.trans (hY.mono hX.size)
  obtain ⟨Q, hq0⟩ : ∃ q, sameM x z = q := ⟨_, rfl⟩
  rw [hq0]
  obtain ⟨q1, hq1⟩ : ∃ q, decide (x.params = z.params) = q := ⟨_, rfl⟩
  obtain ⟨q2, hq2⟩ : ∃ q, decide (x.temps = z.temps) = q := ⟨_, rfl⟩
  obtain ⟨q3, hq3⟩ : ∃ q, sameL x.body z.body = q := ⟨_, rfl⟩
  have hn : ∀ W, (∃ n, W = w2.drewN n) → Below w.heap.size w W := fun W h => by obtain ⟨n, rfl⟩ := h; exact hXY.trans ((below_dn (Below.refl _ w2) n).mono hXY.size)
  have HP : Hid (∀ W, (∃ n, W = w2.drewN n) → Calls Tryz.prog 52 #[.slice xpa x.params.length xpc, .slice zpa z.params.length zpc] W (fun e w' => e = .returned (.bool q1) ∧ ∃ q, w' = W.drewN q)) := Lib.hid (fun W hW => by
    have := rsamenames_any _ _ _ _ W (hx.params.below (hn W hW)) (hz.params.below (hn W hW))
    rwa [hq1] at this)
  have HT : Hid (∀ W, (∃ n, W = w2.drewN n) → Calls Tryz.prog 52 #[.slice xta x.temps.length xtc, .slice zta z.temps.length ztc] W (fun e w' => e = .returned (.bool q2) ∧ ∃ q, w' = W.drewN q)) := Lib.hid (fun W hW => by
    have := rsamenames_any _ _ _ _ W (hx.temps.below (hn W hW)) (hz.temps.below (hn W hW))
    rwa [hq2] at this)
  have HKD : Hid (∀ W, (∃ n, W = w2.drewN n) → Calls Tryz.prog 53 #[.slice xba x.body.length xbc, .slice zba z.body.length zbc] W (fun e w' => e = .returned (.bool q3) ∧ ∃ q, w' = W.drewN q)) := Lib.hid (fun W hW => by
    have := rsamenodes_any _ _ _ _ W (hx.body.bel (hn W hW)) (hz.body.bel (hn W hW))
    rwa [hq3] at this)
  have HB0 : Hid (∀ W, (∃ n, W = w2.drewN n) → Below w.heap.size w W) := Lib.hid hn
  unfold mtV
  have HW1 := Lib.hid hw1
  have HW2 := Lib.hid hw2
  have c0 : w2.cell? ⟨w.heap.size, 0, none⟩ = some (.string ⟨x.name.toArray⟩) := hbx2.c 0 _ rfl
  have c1 : w2.cell? ⟨w.heap.size, 1, none⟩ = some (.slice xpa x.params.length xpc) := hbx2.c 1 _ rfl
  have c2 : w2.cell? ⟨w.heap.size, 2, none⟩ = some (.slice xta x.temps.length xtc) := hbx2.c 2 _ rfl
  have c3 : w2.cell? ⟨w.heap.size, 3, none⟩ = some (.int .i64 x.prim) := hbx2.c 3 _ rfl
  have c4 : w2.cell? ⟨w.heap.size, 4, none⟩ = some (.slice xba x.body.length xbc) := hbx2.c 4 _ rfl
  have d0 : w2.cell? ⟨w.heap.size + 1, 0, none⟩ = some (.string ⟨z.name.toArray⟩) := hbz.c 0 _ rfl
  have d1 : w2.cell? ⟨w.heap.size + 1, 1, none⟩ = some (.slice zpa z.params.length zpc) := hbz.c 1 _ rfl
  have d2 : w2.cell? ⟨w.heap.size + 1, 2, none⟩ = some (.slice zta z.temps.length ztc) := hbz.c 2 _ rfl
  have d3 : w2.cell? ⟨w.heap.size + 1, 3, none⟩ = some (.int .i64 z.prim) := hbz.c 3 _ rfl
  have d4 : w2.cell? ⟨w.heap.size + 1, 4, none⟩ = some (.slice zba z.body.length zbc) := hbz.c 4 _ rfl
  have ZB : ∃ n, w2 = w2.drewN n := ⟨0, rfl⟩
  have ZH := Lib.hid ZB
  clear ZB hn hsz hx hz hX hbx hw1 hY hbz hw2 hbx2 hXY
  go_enter Tryz.func18, Tryz.ntmps18
  go_upto_region 1 with fail
  rw [HW1.out, HW2.out]
  by_cases a1 : x.name = z.name
  case neg =>
    have b1 : (x.name == z.name) = false := beq_eq_false_iff_ne.2 a1
    have HS : Hid (Q = false) := Lib.hid (by rw [← hq0]; unfold sameM; simp [a1])
    clear hq0
    go_wp2_with fail
    go_ret
    exact ⟨by rw [HS.out]; first | rfl | simp, HB0.out _ ZH.out⟩
  have b1 : (x.name == z.name) = true := beq_iff_eq.2 a1
  by_cases a2 : x.prim = z.prim
  case neg =>
    have b2 : (x.prim == z.prim) = false := beq_eq_false_iff_ne.2 a2
    have HS : Hid (Q = false) := Lib.hid (by rw [← hq0]; unfold sameM; simp [a2])
    clear hq0
    go_wp2_with fail
    go_ret
    exact ⟨by rw [HS.out]; first | rfl | simp, HB0.out _ ZH.out⟩
  have b2 : (x.prim == z.prim) = true := beq_iff_eq.2 a2
  have A1 := Lib.hid a1
  have A2 := Lib.hid a2
  clear a1 a2
  cases q1
  case false =>
    have HS : Hid (Q = false) := Lib.hid (by rw [← hq0]; unfold sameM; simp [hq1])
    clear hq0 hq1 hq2 hq3
    go_wp2_with fail
    refine (HP.out _ ZH.out).mono ?_; rintro e w3 ⟨rfl, qn, rfl⟩
    go_wp2_with fail
    go_ret
    exact ⟨by rw [HS.out]; first | rfl | simp, HB0.out _ ⟨_, by first | rfl | exact World.drewN_drewN _ _ _⟩⟩
  cases q2
  case false =>
    have HS : Hid (Q = false) := Lib.hid (by rw [← hq0]; unfold sameM; simp [hq2])
    clear hq0 hq1 hq2 hq3
    go_wp2_with fail
    refine (HP.out _ ZH.out).mono ?_; rintro e w3 ⟨rfl, qn, rfl⟩
    go_wp2_with fail
    refine (HT.out _ ⟨_, by first | rfl | exact World.drewN_drewN _ _ _⟩).mono ?_; rintro e w4 ⟨rfl, qm, rfl⟩
    go_wp2_with fail
    go_ret
    exact ⟨by rw [HS.out]; first | rfl | simp, HB0.out _ ⟨_, by first | rfl | exact World.drewN_drewN _ _ _⟩⟩
  have HS : Hid (Q = q3) := Lib.hid (by rw [← hq0]; unfold sameM; simp [A1.out, A2.out, hq3, of_decide_eq_true hq1, of_decide_eq_true hq2])
  clear hq0 hq1 hq2 hq3
  go_wp2_with fail
  refine (HP.out _ ZH.out).mono ?_; rintro e w3 ⟨rfl, qn, rfl⟩
  go_wp2_with fail
  refine (HT.out _ ⟨_, by first | rfl | exact World.drewN_drewN _ _ _⟩).mono ?_; rintro e w4 ⟨rfl, qm, rfl⟩
  go_wp2_with fail
  refine (HKD.out _ ⟨_, by first | rfl | exact World.drewN_drewN _ _ _⟩).mono ?_; rintro e w5 ⟨rfl, qk, rfl⟩
  go_wp2_with fail
  go_ret
  exact ⟨by rw [HS.out]; first | rfl | simp, HB0.out _ ⟨_, by first | rfl | (rw [World.drewN_drewN, World.drewN_drewN]) | exact World.drewN_drewN _ _ _⟩⟩
set_option maxRecDepth 100000 in
set_option maxHeartbeats 3200000 in
theorem Same_any {S S' : Nat → Prop} (x z : Mt) (pv tv bv pv' tv' bv' : Value) (w : World) (hx : MtAt S w x pv tv bv) (hz : MtAt S' w z pv' tv' bv') :
    Calls Tryz.prog 20 #[mtV x pv tv bv, mtV z pv' tv' bv'] w (Back (.bool (sameM x z)) w) := by
  obtain ⟨xpa, xpc, rfl, -, -⟩ := hx.params.form
  obtain ⟨xta, xtc, rfl, -, -⟩ := hx.temps.form
  obtain ⟨xba, xbc, rfl, -, -⟩ := hx.body.form
  obtain ⟨zpa, zpc, rfl, -, -⟩ := hz.params.form
  obtain ⟨zta, ztc, rfl, -, -⟩ := hz.temps.form
  obtain ⟨zba, zbc, rfl, -, -⟩ := hz.body.form
  have hX := alloc_bel w (.cells #[.string ⟨x.name.toArray⟩, .slice xpa x.params.length xpc, .slice xta x.temps.length xtc, .int .i64 x.prim, .slice xba x.body.length xbc, .int .i64 x.at_] 30)
  have hbx := Blk.made (T := 30) (cs := #[.string ⟨x.name.toArray⟩, .slice xpa x.params.length xpc, .slice xta x.temps.length xtc, .int .i64 x.prim, .slice xba x.body.length xbc, .int .i64 x.at_]) w
  obtain ⟨w1, hw1⟩ : ∃ v, w.alloc (.cells #[.string ⟨x.name.toArray⟩, .slice xpa x.params.length xpc, .slice xta x.temps.length xtc, .int .i64 x.prim, .slice xba x.body.length xbc, .int .i64 x.at_] 30) = v := ⟨_, rfl⟩
  rw [hw1] at hX hbx
  have hY := alloc_bel w1 (.cells #[.string ⟨z.name.toArray⟩, .slice zpa z.params.length zpc, .slice zta z.temps.length ztc, .int .i64 z.prim, .slice zba z.body.length zbc, .int .i64 z.at_] 30)
  have hbz := Blk.made (T := 30) (cs := #[.string ⟨z.name.toArray⟩, .slice zpa z.params.length zpc, .slice zta z.temps.length ztc, .int .i64 z.prim, .slice zba z.body.length zbc, .int .i64 z.at_]) w1
  obtain ⟨w2, hw2⟩ : ∃ v, w1.alloc (.cells #[.string ⟨z.name.toArray⟩, .slice zpa z.params.length zpc, .slice zta z.temps.length ztc, .int .i64 z.prim, .slice zba z.body.length zbc, .int .i64 z.at_] 30) = v := ⟨_, rfl⟩
  rw [hw2] at hY hbz
  have hsz : w1.heap.size = w.heap.size + 1 := by rw [← hw1]; simp
  rw [hsz] at hbz
  have n1 : ¬ w.heap.size = w.heap.size + 1 := by omega
  have n2 : ¬ w.heap.size + 1 = w.heap.size := by omega
  have hbx2 := hbx.below hY hbx.lt
  have hXY := hX.trans (hY.mono hX.size)
  obtain ⟨Q, hq0⟩ : ∃ q, sameM x z = q := ⟨_, rfl⟩
  rw [hq0]
  obtain ⟨q1, hq1⟩ : ∃ q, decide (x.params = z.params) = q := ⟨_, rfl⟩
  obtain ⟨q2, hq2⟩ : ∃ q, decide (x.temps = z.temps) = q := ⟨_, rfl⟩
  obtain ⟨q3, hq3⟩ : ∃ q, sameL x.body z.body = q := ⟨_, rfl⟩
  have hn : ∀ W, (∃ n, W = w2.drewN n) → Below w.heap.size w W := fun W h => by obtain ⟨n, rfl⟩ := h; exact hXY.trans ((below_dn (Below.refl _ w2) n).mono hXY.size)
  have HP : Hid (∀ W, (∃ n, W = w2.drewN n) → Calls Tryz.prog 55 #[.slice xpa x.params.length xpc, .slice zpa z.params.length zpc] W (fun e w' => e = .returned (.bool q1) ∧ ∃ q, w' = W.drewN q)) := Lib.hid (fun W hW => by
    have := equal_any _ _ _ _ W (hx.params.below (hn W hW)) (hz.params.below (hn W hW))
    rwa [hq1] at this)
  have HT : Hid (∀ W, (∃ n, W = w2.drewN n) → Calls Tryz.prog 55 #[.slice xta x.temps.length xtc, .slice zta z.temps.length ztc] W (fun e w' => e = .returned (.bool q2) ∧ ∃ q, w' = W.drewN q)) := Lib.hid (fun W hW => by
    have := equal_any _ _ _ _ W (hx.temps.below (hn W hW)) (hz.temps.below (hn W hW))
    rwa [hq2] at this)
  have HKD : Hid (∀ W, (∃ n, W = w2.drewN n) → Calls Tryz.prog 56 #[.slice xba x.body.length xbc, .slice zba z.body.length zbc, .func (.func 57) #[] #[]] W (Back (.bool q3) W)) := Lib.hid (fun W hW => by
    have := eqf_any x.body z.body _ _ W (hx.body.bel (hn W hW)) (hz.body.bel (hn W hW))
    rwa [hq3] at this)
  have HB0 : Hid (∀ W, (∃ n, W = w2.drewN n) → Below w.heap.size w W) := Lib.hid hn
  unfold mtV
  have HW1 := Lib.hid hw1
  have HW2 := Lib.hid hw2
  have c0 : w2.cell? ⟨w.heap.size, 0, none⟩ = some (.string ⟨x.name.toArray⟩) := hbx2.c 0 _ rfl
  have c1 : w2.cell? ⟨w.heap.size, 1, none⟩ = some (.slice xpa x.params.length xpc) := hbx2.c 1 _ rfl
  have c2 : w2.cell? ⟨w.heap.size, 2, none⟩ = some (.slice xta x.temps.length xtc) := hbx2.c 2 _ rfl
  have c3 : w2.cell? ⟨w.heap.size, 3, none⟩ = some (.int .i64 x.prim) := hbx2.c 3 _ rfl
  have c4 : w2.cell? ⟨w.heap.size, 4, none⟩ = some (.slice xba x.body.length xbc) := hbx2.c 4 _ rfl
  have d0 : w2.cell? ⟨w.heap.size + 1, 0, none⟩ = some (.string ⟨z.name.toArray⟩) := hbz.c 0 _ rfl
  have d1 : w2.cell? ⟨w.heap.size + 1, 1, none⟩ = some (.slice zpa z.params.length zpc) := hbz.c 1 _ rfl
  have d2 : w2.cell? ⟨w.heap.size + 1, 2, none⟩ = some (.slice zta z.temps.length ztc) := hbz.c 2 _ rfl
  have d3 : w2.cell? ⟨w.heap.size + 1, 3, none⟩ = some (.int .i64 z.prim) := hbz.c 3 _ rfl
  have d4 : w2.cell? ⟨w.heap.size + 1, 4, none⟩ = some (.slice zba z.body.length zbc) := hbz.c 4 _ rfl
  have ZB : ∃ n, w2 = w2.drewN n := ⟨0, rfl⟩
  have ZH := Lib.hid ZB
  clear ZB hn hsz hx hz hX hbx hw1 hY hbz hw2 hbx2 hXY
  go_enter Tryz.func20, Tryz.ntmps20
  go_upto_region 1 with fail
  rw [HW1.out, HW2.out]
  by_cases a1 : x.name = z.name
  case neg =>
    have b1 : (x.name == z.name) = false := beq_eq_false_iff_ne.2 a1
    have HS : Hid (Q = false) := Lib.hid (by rw [← hq0]; unfold sameM; simp [a1])
    clear hq0
    go_wp2_with fail
    go_ret
    exact ⟨by rw [HS.out]; first | rfl | simp, HB0.out _ ZH.out⟩
  have b1 : (x.name == z.name) = true := beq_iff_eq.2 a1
  by_cases a2 : x.prim = z.prim
  case neg =>
    have b2 : (x.prim == z.prim) = false := beq_eq_false_iff_ne.2 a2
    have HS : Hid (Q = false) := Lib.hid (by rw [← hq0]; unfold sameM; simp [a2])
    clear hq0
    go_wp2_with fail
    go_ret
    exact ⟨by rw [HS.out]; first | rfl | simp, HB0.out _ ZH.out⟩
  have b2 : (x.prim == z.prim) = true := beq_iff_eq.2 a2
  have A1 := Lib.hid a1
  have A2 := Lib.hid a2
  clear a1 a2
  cases q1
  case false =>
    have HS : Hid (Q = false) := Lib.hid (by rw [← hq0]; unfold sameM; simp [hq1])
    clear hq0 hq1 hq2 hq3
    go_wp2_with fail
    refine (HP.out _ ZH.out).mono ?_; rintro e w3 ⟨rfl, qn, rfl⟩
    go_wp2_with fail
    go_ret
    exact ⟨by rw [HS.out]; first | rfl | simp, HB0.out _ ⟨_, by first | rfl | exact World.drewN_drewN _ _ _⟩⟩
  cases q2
  case false =>
    have HS : Hid (Q = false) := Lib.hid (by rw [← hq0]; unfold sameM; simp [hq2])
    clear hq0 hq1 hq2 hq3
    go_wp2_with fail
    refine (HP.out _ ZH.out).mono ?_; rintro e w3 ⟨rfl, qn, rfl⟩
    go_wp2_with fail
    refine (HT.out _ ⟨_, by first | rfl | exact World.drewN_drewN _ _ _⟩).mono ?_; rintro e w4 ⟨rfl, qm, rfl⟩
    go_wp2_with fail
    go_ret
    exact ⟨by rw [HS.out]; first | rfl | simp, HB0.out _ ⟨_, by first | rfl | exact World.drewN_drewN _ _ _⟩⟩
  have HS : Hid (Q = q3) := Lib.hid (by rw [← hq0]; unfold sameM; simp [A1.out, A2.out, hq3, of_decide_eq_true hq1, of_decide_eq_true hq2])
  clear hq0 hq1 hq2 hq3
  go_wp2_with fail
  refine (HP.out _ ZH.out).mono ?_; rintro e w3 ⟨rfl, qn, rfl⟩
  go_wp2_with fail
  refine (HT.out _ ⟨_, by first | rfl | exact World.drewN_drewN _ _ _⟩).mono ?_; rintro e w4 ⟨rfl, qm, rfl⟩
  go_wp2_with fail
  refine (HKD.out _ ⟨_, by first | rfl | exact World.drewN_drewN _ _ _⟩).mono ?_; rintro e w5 ⟨rfl, hb5⟩
  have HB5 : Hid (Below w.heap.size w w5) := Lib.hid (bel_on (HB0.out _ ⟨_, by first | rfl | exact World.drewN_drewN _ _ _⟩) hb5)
  clear hb5
  go_wp2_with fail
  go_ret
  exact ⟨by rw [HS.out]; first | rfl | simp, HB5.out⟩
end Tr
end Go.Proofs.YtfbhokdcnjekiaaGreatDoor
