/- SmallParts: the walk. -/
import Derived.Test.YtmmgpmdjpbalfaaDoorSmAwake
import Derived.Test.YtmmgpmdjpbalfaaDoorSmRules
set_option linter.unusedVariables false
namespace Go.Proofs.YtmmgpmdjpbalfaaDoor
open Go.RowKit
namespace Sm
set_option maxRecDepth 100000 in
set_option maxHeartbeats 2000000 in
theorem parts_nought (a b x : Int) (w : World) (ea : a / 2 = x) (eb : b / 2 = 0) (hx : Inr x) (ht : Pow10 w) :
    Calls Tryd.prog 6 #[.int .i64 a, .int .i64 b] w (Back (.bool true) w) := by
  have H := Lib.hid ht; clear ht
  have h0 : Inr 0 := by unfold Inr; omega
  go_enter Tryd.func6, Tryd.ntmps6
  go_wp2_with fail
  refine (awake_any _ H.out).mono ?_; rintro e w0 ⟨rfl, hb⟩
  go_wp2_with (go_at_call 11; go_must (refine (of_in _ _ (by assumption)).mono ?_); rintro e w' ⟨rfl, rfl⟩)
  refine (floor_nought x _ hx).mono ?_; rintro e w1 ⟨rfl, hb1⟩
  go_wp2_with fail
  refine (mod_nought x _ hx).mono ?_; rintro e w2 ⟨rfl, hb2⟩
  go_wp2_with fail
  refine (quo_nought x _ hx).mono ?_; rintro e w3 ⟨rfl, hb3⟩
  go_wp2_with fail
  refine (rem_nought x _ hx).mono ?_; rintro e w4 ⟨rfl, hb4⟩
  go_wp2_with fail
  go_ret
  refine ⟨rfl, ?_⟩
  have c1 := hb.trans (hb1.mono hb.size)
  have c2 := c1.trans (hb2.mono c1.size)
  have c3 := c2.trans (hb3.mono c2.size)
  exact c3.trans (hb4.mono c3.size)
set_option maxRecDepth 100000 in
set_option maxHeartbeats 2000000 in
theorem parts_core (a b x y q m d r p s : Int) (w : World) (ea : a / 2 = x) (eb : b / 2 = y) (hx : Inr x) (hy : Inr y) (hy0 : (y == 0) = false) (hy0' : ¬ y = 0) (hq : Inr q) (hm : Inr m) (hd : Inr d) (hr : Inr r)
    (CF : Hid (∀ w, Calls Tryd.prog 24 #[.int .u64 (wd x), .int .u64 (wd y)] w (Out2 (wd q) 0 w)))
    (CM : Hid (∀ w, Calls Tryd.prog 25 #[.int .u64 (wd x), .int .u64 (wd y)] w (Out2 (wd m) 0 w)))
    (CQ : Hid (∀ w, Calls Tryd.prog 26 #[.int .u64 (wd x), .int .u64 (wd y)] w (Out2 (wd d) 0 w)))
    (CR : Hid (∀ w, Calls Tryd.prog 27 #[.int .u64 (wd x), .int .u64 (wd y)] w (Out2 (wd r) 0 w)))
    (sm : m = 0 ∨ (m < 0 ∧ y < 0) ∨ (0 < m ∧ 0 < y)) (sr : r = 0 ∨ (r < 0 ∧ x < 0) ∨ (0 < r ∧ 0 < x)) (tm : m.tmod y = m) (tr : r.tmod y = r)
    (ep : wrap64 (q * y) = p) (es : wrap64 (d * y) = s) (p1 : p + m ≤ x) (p2 : x ≤ p + m) (s1 : s + r ≤ x) (s2 : x ≤ s + r) (p3 : -9223372036854775808 ≤ p) (p4 : p ≤ 9223372036854775807) (s3 : -9223372036854775808 ≤ s) (s4 : s ≤ 9223372036854775807) (x1 : -4611686018427387904 ≤ x) (x2 : x ≤ 4611686018427387903) (ht : Pow10 w) :
    Calls Tryd.prog 6 #[.int .i64 a, .int .i64 b] w (Back (.bool true) w) := by
  have H := Lib.hid ht; clear ht
  go_enter Tryd.func6, Tryd.ntmps6
  go_wp2_with fail
  refine (awake_any _ H.out).mono ?_; rintro e w0 ⟨rfl, hb⟩
  go_wp2_with (go_at_call 11; go_must (refine (of_in _ _ (by assumption)).mono ?_); rintro e w' ⟨rfl, rfl⟩)
  refine (CF.out _).mono ?_; rintro e w1 ⟨rfl, hb1⟩
  go_wp2_with fail
  refine (CM.out _).mono ?_; rintro e w2 ⟨rfl, hb2⟩
  go_wp2_with fail
  refine (CQ.out _).mono ?_; rintro e w3 ⟨rfl, hb3⟩
  go_wp2_with fail
  refine (CR.out _).mono ?_; rintro e w4 ⟨rfl, hb4⟩
  go_wp2_with (go_at_call 13; go_must (refine (value_wd _ _ (by assumption)).mono ?_); rintro e w' ⟨rfl, rfl⟩)
  all_goals
    go_ret
    refine ⟨ret1 (vbool (beq_iff_eq.2 (by omega))), ?_⟩
    have c1 := hb.trans (hb1.mono hb.size)
    have c2 := c1.trans (hb2.mono c1.size)
    have c3 := c2.trans (hb3.mono c2.size)
    exact c3.trans (hb4.mono c3.size)
set_option maxRecDepth 100000 in
set_option maxHeartbeats 2000000 in
theorem parts_over (a b : Int) (w : World) (ea : a / 2 = -4611686018427387904) (eb : b / 2 = -1) (ht : Pow10 w) :
    Calls Tryd.prog 6 #[.int .i64 a, .int .i64 b] w (Back (.bool true) w) := by
  have H := Lib.hid ht; clear ht
  have hx : Inr (-4611686018427387904) := by unfold Inr; omega
  have hy : Inr (-1) := by unfold Inr; omega
  have h0 : Inr 0 := by unfold Inr; omega
  have ef : fl (-4611686018427387904) (-1) = 4611686018427387904 := by decide
  have em : md (-4611686018427387904) (-1) = 0 := by decide
  have eq : Int.tdiv (-4611686018427387904) (-1) = 4611686018427387904 := by decide
  have er : Int.tmod (-4611686018427387904) (-1) = 0 := by decide
  have CF := fun w => floor_over (-4611686018427387904) (-1) w hx hy 4611686018427387904 rfl (fun w => (floor_rule _ _ w hx hy (by decide)).mono fun e w' h => by rw [ef] at h; exact h) (by unfold Inr; omega) (by omega) (by omega)
  have CM := fun w => mod_ok (-4611686018427387904) (-1) w hx hy 0 rfl (fun w => (mod_rule _ _ w hx hy (by decide)).mono fun e w' h => by rw [em] at h; exact h) h0
  have CQ := fun w => quo_over (-4611686018427387904) (-1) w hx hy 4611686018427387904 rfl (fun w => (quo_rule _ _ w hx hy (by decide)).mono fun e w' h => by rw [eq] at h; exact h) (by unfold Inr; omega) (by omega) (by omega)
  have CR := fun w => rem_ok (-4611686018427387904) (-1) w hx hy 0 rfl (fun w => (rem_rule _ _ w (by decide)).mono fun e w' h => by rw [er] at h; exact h) h0
  have CF := Lib.hid CF; have CM := Lib.hid CM; have CQ := Lib.hid CQ; have CR := Lib.hid CR
  clear ef em eq er
  go_enter Tryd.func6, Tryd.ntmps6
  go_wp2_with fail
  refine (awake_any _ H.out).mono ?_; rintro e w0 ⟨rfl, hb⟩
  go_wp2_with (go_at_call 11; go_must (refine (of_in _ _ (by assumption)).mono ?_); rintro e w' ⟨rfl, rfl⟩)
  refine (CF.out _).mono ?_; rintro e w1 ⟨rfl, hb1⟩
  go_wp2_with fail
  refine (CM.out _).mono ?_; rintro e w2 ⟨rfl, hb2⟩
  go_wp2_with fail
  refine (CQ.out _).mono ?_; rintro e w3 ⟨rfl, hb3⟩
  go_wp2_with fail
  refine (CR.out _).mono ?_; rintro e w4 ⟨rfl, hb4⟩
  go_wp2_with (go_at_call 13; go_must (refine (value_wd _ _ (by assumption)).mono ?_); rintro e w' ⟨rfl, rfl⟩)
  go_ret
  refine ⟨rfl, ?_⟩
  have c1 := hb.trans (hb1.mono hb.size)
  have c2 := c1.trans (hb2.mono c1.size)
  have c3 := c2.trans (hb3.mono c2.size)
  exact c3.trans (hb4.mono c3.size)
theorem over_where (x y : Int) (hx : Inr x) (hy : Inr y) (hn : y ≠ 0) (h : ¬ (x = -4611686018427387904 ∧ y = -1)) : Inr (x.tdiv y) ∧ Inr (fl x y) := by
  obtain ⟨t1, t2, t3, t4, t5⟩ := tdm x y hn
  obtain ⟨f1, f2⟩ := fl_bd x y hx hn
  have key : x.tdiv y ≠ 4611686018427387904 := by
    intro hq
    rw [hq] at t1
    unfold Inr at hx hy
    have hx' : x = -4611686018427387904 := by omega
    subst hx'
    have h3 : y = -1 := by omega
    exact h ⟨rfl, h3⟩
  have key2 : fl x y ≠ 4611686018427387904 := by
    intro hq
    unfold fl at hq
    split at hq
    · unfold Inr at hx; omega
    · exact key hq
  unfold Inr at *
  omega
theorem parts_walk (a b : Int) (w : World) (a1 : -9223372036854775808 ≤ a) (a2 : a ≤ 9223372036854775807) (b1 : -9223372036854775808 ≤ b) (b2 : b ≤ 9223372036854775807) (ht : Pow10 w) :
    Calls Tryd.prog 6 #[.int .i64 a, .int .i64 b] w (Back (.bool true) w) := by
  have hx : Inr (a / 2) := by unfold Inr; omega
  have hy : Inr (b / 2) := by unfold Inr; omega
  by_cases h0 : b / 2 = 0
  · exact parts_nought a b _ w rfl h0 hx ht
  · by_cases ho : a / 2 = -4611686018427387904 ∧ b / 2 = -1
    · exact parts_over a b w ho.1 ho.2 ht
    · generalize ea : a / 2 = x at *
      generalize eb : b / 2 = y at *
      obtain ⟨t1, t2, t3, t4, t5⟩ := tdm x y h0
      obtain ⟨o1, o2⟩ := over_where x y hx hy h0 ho
      obtain ⟨m1, m2⟩ := md_bd x y h0
      have e1 := fl_md x y
      have hn : (y == 0) = false := by simpa using h0
      have hm : Inr (md x y) := by unfold Inr at *; omega
      have hr : Inr (x.tmod y) := by unfold Inr at *; omega
      have hp : wrap64 (fl x y * y) = fl x y * y := wr (by unfold Inr at *; omega)
      have hs : wrap64 (x.tdiv y * y) = x.tdiv y * y := wr (by rw [Int.mul_comm]; unfold Inr at *; omega)
      have ecd : x.tdiv y * y = y * x.tdiv y := Int.mul_comm _ _
      refine parts_core a b x y (fl x y) (md x y) (x.tdiv y) (x.tmod y) (fl x y * y) (x.tdiv y * y) w ea eb hx hy hn h0 o2 hm o1 hr
        (Lib.hid fun w => floor_ok x y w hx hy _ hn (fun w => floor_rule _ _ w hx hy h0) o2)
        (Lib.hid fun w => mod_ok x y w hx hy _ hn (fun w => mod_rule _ _ w hx hy h0) hm)
        (Lib.hid fun w => quo_ok x y w hx hy _ hn (fun w => quo_rule _ _ w hx hy h0) o1)
        (Lib.hid fun w => rem_ok x y w hx hy _ hn (fun w => rem_rule _ _ w h0) hr)
        ?_ ?_ (small_tmod _ _ m2) (small_tmod _ _ t4) hp hs ?_ ?_ ?_ ?_ ?_ ?_ ?_ ?_ hx.1 hx.2 ht
      all_goals (unfold Inr at *; omega)
end Sm
end Go.Proofs.YtmmgpmdjpbalfaaDoor
