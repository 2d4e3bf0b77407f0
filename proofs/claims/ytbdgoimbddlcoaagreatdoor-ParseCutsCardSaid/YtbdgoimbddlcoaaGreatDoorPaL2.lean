/- Chapter 11: the law ParseCuts (wip/gen/gen_pal2.py prints this). -/
import Derived.Test.YtbdgoimbddlcoaaGreatDoorPaL1
import Derived.Deep.DeepCutAuto
set_option linter.unusedVariables false
namespace Go.Proofs.YtbdgoimbddlcoaaGreatDoor
open Go.RowKit
namespace Pa
open Bs Sm Tr
open Lx (Mv)
def cutB (s : ByteArray) (n : Nat) : ByteArray := if n < s.size then s.extract 0 n else s
theorem cutB_le (s : ByteArray) (n : Nat) : (cutB s n).size ≤ n := by
 unfold cutB; split
 · simp [ByteArray.size_extract]; omega
 · omega
theorem names_ne {l : List UInt8} (h : l ≠ []) : List.isEmpty l = false := by
 cases l with
 | nil => exact absurd rfl h
 | cons _ _ => rfl
set_option maxRecDepth 100000 in
set_option maxHeartbeats 1600000 in
theorem cuts_walk (s : ByteArray) (at_ : Int) (w : World) (hs : s.size ≤ 9223372036854775807) (b1 : -9223372036854775808 ≤ at_) (b2 : at_ ≤ 9223372036854775807) (hpow : Bs.Pow10 w) (herr : Bs.ErrVar w) (hmax : MaxV w) :
  Calls Tryz.prog 4 #[.string s, .int .i64 at_] w (Back (.bool true) w) := by
 have HAW := Lib.hid (awake_any w hpow herr hmax)
 have HERR := Lib.hid herr
 clear hpow hmax herr
 obtain ⟨A1, hA1, hA5⟩ : ∃ A1 : ByteArray, cutB s 1000 = A1 ∧ A1.size ≤ 1000 := ⟨_, rfl, cutB_le s 1000⟩
 have HA1 := Lib.hid hA1
 clear hA1
 go_enter Tryz.func4, Tryz.ntmps4
 go_wp2_with fail
 refine HAW.out.mono ?_; rintro e w1 ⟨rfl, hb1⟩
 have HB1 := Lib.hid hb1
 clear HAW hb1
 go_upto_if 14 with fail
 go_cut [0] (fun s0 wx => s0 = .string A1 ∧ wx = w1)
 case first =>
  have hA1 := HA1.out
  unfold cutB at hA1
  by_cases hA : 1000 < s.size
  · rw [if_pos hA] at hA1
    have hdA : decide ((1000 : Int) < (s.size : Int)) = true := decide_eq_true (by omega)
    have hxA : 1000 ≤ s.size := by omega
    go_wp2_with fail
    go_meet
    exact ⟨by first | rfl | rw [hA1], rfl⟩
  · rw [if_neg hA] at hA1
    have hdA : decide ((1000 : Int) < (s.size : Int)) = false := decide_eq_false (by omega)
    go_wp2_with fail
    go_meet
    exact ⟨by first | rfl | rw [hA1], rfl⟩
 case rest =>
 obtain ⟨rfl, hwc⟩ := hcut
 rw [hwc]
 clear hwc
 clear HA1
 obtain ⟨n2, hn2⟩ : ∃ n : Nat, A1.size = n := ⟨_, rfl⟩
 have hn2' : (A1.size : Int) = (n2 : Int) := by omega
 obtain ⟨x0, hx0, hx0'⟩ : ∃ n : Nat, max 0 (min at_ (n2 : Int)) = (n : Int) ∧ n ≤ n2 := ⟨(max 0 (min at_ (n2 : Int))).toNat, by omega, by omega⟩
 obtain ⟨x1, hx1, hx1'⟩ : ∃ n : Nat, (n2 : Int) / 2 = (n : Int) ∧ n ≤ n2 := ⟨n2 / 2, by omega, by omega⟩
 have HX0 := Lib.hid hx0
 have HX1 := Lib.hid hx1
 clear hx0 hx1
 go_wp2_with fail
 rw [HX0.out, HX1.out]
 have hbA := HB1.out.trans ((alloc_bel w1 (.cells #[.int .i64 (x0 : Int), .int .i64 (x1 : Int), .int .i64 (n2 : Int)] 3)).mono HB1.out.size)
 have hKA := Blk.made (T := 3) (cs := #[.int .i64 (x0 : Int), .int .i64 (x1 : Int), .int .i64 (n2 : Int)]) w1
 obtain ⟨W2, hal⟩ : ∃ W, w1.alloc (.cells #[.int .i64 (x0 : Int), .int .i64 (x1 : Int), .int .i64 (n2 : Int)] 3) = W := ⟨_, rfl⟩
 rw [hal] at hbA hKA ⊢
 obtain ⟨kb, hkb⟩ : ∃ k, w1.heap.size = k := ⟨_, rfl⟩
 rw [hkb] at hKA ⊢
 have hwk : w.heap.size ≤ kb := by have := HB1.out.size; omega
 have HBA := Lib.hid hbA
 have HKA := Lib.hid hKA
 clear hbA hKA hal hkb HX0 HX1 HB1
 go_loopw [29] (fun y wr => ∃ k : Nat, y = .int .i64 (k : Int) ∧ k ≤ 3 ∧ Hid (Blk 3 kb #[.int .i64 (x0 : Int), .int .i64 (x1 : Int), .int .i64 (n2 : Int)] wr) ∧ Hid (Below w.heap.size w wr)) (fun y _ => 3 - (intOf y).toNat)
 case atStart => exact ⟨0, rfl, by omega, HKA, HBA⟩
 case round =>
  obtain ⟨k, rfl, hk, HK, HB⟩ := hrel
  by_cases hk3 : k < 3
  · have hd : decide ((k : Int) < 3) = true := decide_eq_true (by omega)
    obtain ⟨x, hx, hc⟩ : ∃ x : Nat, x ≤ n2 ∧ wr.cell? ⟨kb, k, none⟩ = some (.int .i64 (x : Int)) := by
     rcases (by omega : k = 0 ∨ k = 1 ∨ k = 2) with rfl | rfl | rfl
     · exact ⟨x0, hx0', HK.out.c 0 _ rfl⟩
     · exact ⟨x1, hx1', HK.out.c 1 _ rfl⟩
     · exact ⟨n2, Nat.le_refl _, HK.out.c 2 _ rfl⟩
    have hbe : k * 1 = k := by omega
    obtain ⟨T, hT⟩ : ∃ T, A1.extract 0 x = T := ⟨_, rfl⟩
    have hTs : T.size = x := by rw [← hT, ByteArray.size_extract]; omega
    have hME := Method_any T wr (by omega) (HERR.out.below HB.out)
    have hcu := meth_cuts T.data.toList (by show T.size ≤ _; omega)
    have hlen : T.data.toList.length = x := hTs
    obtain ⟨R, hR⟩ : ∃ R, methR T.data.toList = R := ⟨_, rfl⟩
    rw [hR] at hME hcu
    rw [hlen] at hcu
    have HME := Lib.hid hME
    have HCU := Lib.hid hcu
    have HT := Lib.hid hT
    clear hME hcu hlen hR hTs hT
    go_wp2_with fail
    rw [HT.out]
    refine HME.out.mono ?_; rintro e w3 ⟨hb3, ht⟩
    have hK3 := HK.out.below hb3 HK.out.lt
    have hB3 := HB.out.trans (hb3.mono HB.out.size)
    have hkl := hK3.lt
    clear hc
    cases R with
    | error y =>
     obtain ⟨p, n⟩ := y
     subst ht
     obtain ⟨q1, q2, q3⟩ := HCU.out
     have g1 : (n != 0) = true := by simpa using q3
     have g2 : (n == 0) = false := by simpa using q3
     have g3 : decide (p < 0) = false := decide_eq_false (by omega)
     have g4 : decide ((x : Int) < p) = false := decide_eq_false (by omega)
     unfold zmV
     have hK5 := Blk.made (T := 28) (cs := #[.string ⟨#[]⟩, .slice none 0 0, .slice none 0 0, .int .i64 0, .slice none 0 0, .int .i64 0]) w3
     have hb5 := alloc_bel w3 (.cells #[.string ⟨#[]⟩, .slice none 0 0, .slice none 0 0, .int .i64 0, .slice none 0 0, .int .i64 0] 28)
     obtain ⟨W5, hal⟩ : ∃ W, w3.alloc (.cells #[.string ⟨#[]⟩, .slice none 0 0, .slice none 0 0, .int .i64 0, .slice none 0 0, .int .i64 0] 28) = W := ⟨_, rfl⟩
     rw [hal] at hK5 hb5
     obtain ⟨kz, hkz⟩ : ∃ k, w3.heap.size = k := ⟨_, rfl⟩
     rw [hkz] at hK5
     have hkw : W5.heap.size = kz + 1 := by rw [← hal, ← hkz]; simp
     have c0 := hK5.c 0 _ rfl
     have c1 := hK5.c 1 _ rfl
     have c2 := hK5.c 2 _ rfl
     have c3 := hK5.c 3 _ rfl
     have c4 := hK5.c 4 _ rfl
     have c5 := hK5.c 5 _ rfl
     have cf := hK5.fz
     have hks5 := hK3.below hb5 hK3.lt
     have hbs5 := hB3.trans (hb5.mono hB3.size)
     have hK6 := blk_set6 (v0 := .string ⟨#[]⟩) (v1 := .slice none 0 0) (v2 := .slice none 0 0) (v3 := .int .i64 0) (v4 := .slice none 0 0) (v5 := .int .i64 0) hK5
     have hks6 := blk_far6 (k := kz) (v0 := .string ⟨#[]⟩) (v1 := .slice none 0 0) (v2 := .slice none 0 0) (v3 := .int .i64 0) (v4 := .slice none 0 0) (v5 := .int .i64 0) hks5 (show kb ≠ kz by omega)
     have hbs6 := ((((((hbs5.setCell (p := ⟨kz, 0, none⟩) (show w.heap.size ≤ kz by omega) (.string ⟨#[]⟩)).setCell (p := ⟨kz, 1, none⟩) (show w.heap.size ≤ kz by omega) (.slice none 0 0)).setCell (p := ⟨kz, 2, none⟩) (show w.heap.size ≤ kz by omega) (.slice none 0 0)).setCell (p := ⟨kz, 3, none⟩) (show w.heap.size ≤ kz by omega) (.int .i64 0)).setCell (p := ⟨kz, 4, none⟩) (show w.heap.size ≤ kz by omega) (.slice none 0 0)).setCell (p := ⟨kz, 5, none⟩) (show w.heap.size ≤ kz by omega) (.int .i64 0))
     obtain ⟨W6, hW6⟩ : ∃ W, (((((W5.setCell ⟨kz, 0, none⟩ (.string ⟨#[]⟩)).setCell ⟨kz, 1, none⟩ (.slice none 0 0)).setCell ⟨kz, 2, none⟩ (.slice none 0 0)).setCell ⟨kz, 3, none⟩ (.int .i64 0)).setCell ⟨kz, 4, none⟩ (.slice none 0 0)).setCell ⟨kz, 5, none⟩ (.int .i64 0) = W := ⟨_, rfl⟩
     rw [hW6] at hK6 hks6 hbs6
     have HKS6 := Lib.hid hks6
     have HB6 := Lib.hid hbs6
     have d0 := hK6.c 0 _ rfl
     have d1 := hK6.c 1 _ rfl
     have d2 := hK6.c 2 _ rfl
     have d3 := hK6.c 3 _ rfl
     have d4 := hK6.c 4 _ rfl
     have d5 := hK6.c 5 _ rfl
     clear hK6 hK5 hb5 hK3 hB3 hb3 q1 q2 q3 HCU HME hks5 hbs5 hks6 hbs6 HK HB
     go_wp2_with fail
     exact ⟨⟨k + 1, rfl, by omega, HKS6, HB6⟩, by simp only [intOf]; omega⟩
    | ok m =>
     obtain ⟨pv, tv, bv, rfl, hmt⟩ := ht
     obtain ⟨pa, pc, rfl, -, -⟩ := hmt.params.form
     obtain ⟨ta, tc, rfl, -, -⟩ := hmt.temps.form
     obtain ⟨ba, bc, rfl, -, -⟩ := hmt.body.form
     obtain ⟨q1, q2, q3, q4⟩ := HCU.out
     unfold mtV
     have hK5 := Blk.made (T := 28) (cs := #[.string ⟨#[]⟩, .slice none 0 0, .slice none 0 0, .int .i64 0, .slice none 0 0, .int .i64 0]) w3
     have hb5 := alloc_bel w3 (.cells #[.string ⟨#[]⟩, .slice none 0 0, .slice none 0 0, .int .i64 0, .slice none 0 0, .int .i64 0] 28)
     obtain ⟨W5, hal⟩ : ∃ W, w3.alloc (.cells #[.string ⟨#[]⟩, .slice none 0 0, .slice none 0 0, .int .i64 0, .slice none 0 0, .int .i64 0] 28) = W := ⟨_, rfl⟩
     rw [hal] at hK5 hb5
     obtain ⟨kz, hkz⟩ : ∃ k, w3.heap.size = k := ⟨_, rfl⟩
     rw [hkz] at hK5
     have hkw : W5.heap.size = kz + 1 := by rw [← hal, ← hkz]; simp
     have c0 := hK5.c 0 _ rfl
     have c1 := hK5.c 1 _ rfl
     have c2 := hK5.c 2 _ rfl
     have c3 := hK5.c 3 _ rfl
     have c4 := hK5.c 4 _ rfl
     have c5 := hK5.c 5 _ rfl
     have cf := hK5.fz
     have hks5 := hK3.below hb5 hK3.lt
     have hbs5 := hB3.trans (hb5.mono hB3.size)
     have hK6 := blk_set6 (v0 := .string ⟨m.name.toArray⟩) (v1 := .slice pa m.params.length pc) (v2 := .slice ta m.temps.length tc) (v3 := .int .i64 m.prim) (v4 := .slice ba m.body.length bc) (v5 := .int .i64 m.at_) hK5
     have hks6 := blk_far6 (k := kz) (v0 := .string ⟨m.name.toArray⟩) (v1 := .slice pa m.params.length pc) (v2 := .slice ta m.temps.length tc) (v3 := .int .i64 m.prim) (v4 := .slice ba m.body.length bc) (v5 := .int .i64 m.at_) hks5 (show kb ≠ kz by omega)
     have hbs6 := ((((((hbs5.setCell (p := ⟨kz, 0, none⟩) (show w.heap.size ≤ kz by omega) (.string ⟨m.name.toArray⟩)).setCell (p := ⟨kz, 1, none⟩) (show w.heap.size ≤ kz by omega) (.slice pa m.params.length pc)).setCell (p := ⟨kz, 2, none⟩) (show w.heap.size ≤ kz by omega) (.slice ta m.temps.length tc)).setCell (p := ⟨kz, 3, none⟩) (show w.heap.size ≤ kz by omega) (.int .i64 m.prim)).setCell (p := ⟨kz, 4, none⟩) (show w.heap.size ≤ kz by omega) (.slice ba m.body.length bc)).setCell (p := ⟨kz, 5, none⟩) (show w.heap.size ≤ kz by omega) (.int .i64 m.at_))
     have hm6 := ((hmt.mono (S' := fun j => j ≠ kz) (fun j hj hl => by omega)).bel hb5).kp (kp_set6 (k := kz) (v0 := .string ⟨m.name.toArray⟩) (v1 := .slice pa m.params.length pc) (v2 := .slice ta m.temps.length tc) (v3 := .int .i64 m.prim) (v4 := .slice ba m.body.length bc) (v5 := .int .i64 m.at_) (by simp))
     obtain ⟨W6, hW6⟩ : ∃ W, (((((W5.setCell ⟨kz, 0, none⟩ (.string ⟨m.name.toArray⟩)).setCell ⟨kz, 1, none⟩ (.slice pa m.params.length pc)).setCell ⟨kz, 2, none⟩ (.slice ta m.temps.length tc)).setCell ⟨kz, 3, none⟩ (.int .i64 m.prim)).setCell ⟨kz, 4, none⟩ (.slice ba m.body.length bc)).setCell ⟨kz, 5, none⟩ (.int .i64 m.at_) = W := ⟨_, rfl⟩
     rw [hW6] at hK6 hks6 hbs6 hm6
     have HKS6 := Lib.hid hks6
     have HB6 := Lib.hid hbs6
     have d0 := hK6.c 0 _ rfl
     have d1 := hK6.c 1 _ rfl
     have d2 := hK6.c 2 _ rfl
     have d3 := hK6.c 3 _ rfl
     have d4 := hK6.c 4 _ rfl
     have d5 := hK6.c 5 _ rfl
     have HCK := Check_any m _ _ _ (by omega) q4 W6 (hm6.mono (fun _ _ _ => trivial))
     rw [q1] at HCK
     unfold mtV at HCK
     replace HCK := Lib.hid HCK
     have g1 := names_ne q2
     have HK6 := Lib.hid hK6
     clear hK6 hK5 hb5 hK3 hB3 hb3 q1 q2 q3 q4 HCU HME hks5 hbs5 hks6 hbs6 HK HB hm6 hmt
     go_wp2_with fail
     refine HCK.out.mono ?_; rintro e w7 ⟨rfl, hb7⟩
     have HK7 := Lib.hid (HKS6.out.below hb7 HKS6.out.lt)
     have HB7 := Lib.hid (HB6.out.trans (hb7.mono HB6.out.size))
     clear hb7
     go_wp2_with fail
     exact ⟨⟨k + 1, rfl, by omega, HK7, HB7⟩, by simp only [intOf]; omega⟩
  · have hd : decide ((k : Int) < 3) = false := decide_eq_false (by omega)
    go_wp2_with fail
    go_ret
    exact ⟨rfl, HB.out⟩
end Pa
end Go.Proofs.YtbdgoimbddlcoaaGreatDoor
