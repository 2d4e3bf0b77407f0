/- The reference's one: kinds 4, 7, 8, 9 (printed by gen_trr3.py). -/
import Derived.Test.YtfbhokdcnjekiaaGreatDoorTrR2
import Derived.Test.YtfbhokdcnjekiaaGreatDoorTrMa
set_option linter.unusedVariables false
namespace Go.Proofs.YtfbhokdcnjekiaaGreatDoor
open Go.RowKit
namespace Tr
open Bs Sm
section
variable {x : Nd} {kv nv : Value} {w : World}
set_option maxRecDepth 100000 in
set_option maxHeartbeats 3200000 in
theorem rone_4 (hK : x.kind = 4) (hk : Tree (fun _ => True) w kv x.kids) (hn : Rd (fun _ => True) strV w nv x.names) : Calls Tryz.prog 75 #[ndV x kv nv] w (Back (.bool (oneB x)) w) := by
 obtain ⟨ka, kc, rfl, hkc, hkm⟩ := hk.form
 obtain ⟨na, nc, rfl, hnc, hnm2⟩ := hn.form
 unfold maxLen at hkm hnm2
 have ho := one4 hK
 obtain ⟨n, hnn⟩ : ∃ n, x.kids.length = n := ⟨_, rfl⟩
 obtain ⟨nl, hnl⟩ : ∃ n, x.names.length = n := ⟨_, rfl⟩
 unfold ndV
 rw [hK]
 rw [hnn] at hk hkc ⊢
 rw [hnl] at hn hnc ⊢
 try rw [hnn] at ho
 try rw [hnl] at ho
 obtain ⟨nm, hnm⟩ : ∃ s, x.name = s := ⟨_, rfl⟩
 rw [hnm] at ho ⊢
 cases nm with
 | cons c t =>
  have HO : Hid (oneB x = false) := Lib.hid (by rw [ho]; simp_all)
  clear ho hk hn hK
  go_enter Tryz.func75, Tryz.ntmps75
  go_wp2_with fail
  go_ret
  exact ⟨by rw [HO.out]; first | done | rfl | simp, alloc_bel _ _⟩
 | nil =>
  obtain ⟨z, hz⟩ : ∃ s, x.num = s := ⟨_, rfl⟩
  rw [hz] at ho ⊢
  by_cases hz0 : z = 0
  case neg =>
   have bz : (z == 0) = false := beq_eq_false_iff_ne.2 hz0
   have HO : Hid (oneB x = false) := Lib.hid (by rw [ho]; simp_all)
   clear ho hk hn hK
   go_enter Tryz.func75, Tryz.ntmps75
   go_wp2_with fail
   go_ret
   exact ⟨by rw [HO.out]; first | done | rfl | simp, alloc_bel _ _⟩
  subst hz0
  by_cases hl0 : nl = 0
  case neg =>
   have bl : decide (0 < nl) = true := decide_eq_true (by omega)
   have bl2 : ((nl : Int) == 0) = false := beq_eq_false_iff_ne.2 (by omega)
   have HO : Hid (oneB x = false) := Lib.hid (by rw [ho]; simp_all)
   clear ho hk hn hK
   go_enter Tryz.func75, Tryz.ntmps75
   go_wp2_with fail
   go_ret
   exact ⟨by rw [HO.out]; first | done | rfl | simp, alloc_bel _ _⟩
  subst hl0
  have HO : Hid (oneB x = x.kids.all litB) := Lib.hid (by rw [ho]; simp)
  have HX := Lib.hid (alloc_bel w (.cells #[.int .i64 4, .string ⟨([] : List UInt8).toArray⟩, .int .i64 0, .slice ka n kc, .slice na 0 nc, .int .i64 x.at_] 45))
  obtain ⟨W, hW⟩ : ∃ W, w.alloc (.cells #[.int .i64 4, .string ⟨([] : List UInt8).toArray⟩, .int .i64 0, .slice ka n kc, .slice na 0 nc, .int .i64 x.at_] 45) = W := ⟨_, rfl⟩
  have hbk := Blk.made (T := 45) (cs := #[.int .i64 4, .string ⟨([] : List UInt8).toArray⟩, .int .i64 0, .slice ka n kc, .slice na 0 nc, .int .i64 x.at_]) w
  rw [hW] at hbk HX
  have HBK := Lib.hid hbk
  have HKT := Lib.hid (hk.bel HX.out)
  have HNT := Lib.hid (hn.below HX.out)
  have HNN := Lib.hid hnn
  have c0 := hbk.c 0 _ rfl
  have c1 := hbk.c 1 _ rfl
  have c2 := hbk.c 2 _ rfl
  have c3 := hbk.c 3 _ rfl
  have c4 := hbk.c 4 _ rfl
  have c5 := hbk.c 5 _ rfl
  clear ho hk hn hK hbk hnn hnl hnm hz
  go_enter Tryz.func75, Tryz.ntmps75
  go_wp2_with fail
  clear hW
  go_loopw [5, 4] (fun y v wr => ∃ k : Nat, y = .int .i64 (k : Int) ∧ k ≤ n ∧ v = .bool (valF false x.kids k) ∧ W = wr) (fun y _ _ => n - (intOf y).toNat)
  case atStart => exact ⟨0, rfl, Nat.zero_le _, rfl, rfl⟩
  case round =>
   obtain ⟨k, rfl, hk, rfl, rfl⟩ := hrel
   obtain ⟨q, hq⟩ : ∃ q, valF false x.kids k = q := ⟨_, rfl⟩
   by_cases hkn : k < n
   · have hdec : decide ((k : Int) < (n : Int)) = true := by simpa using hkn
     have hkw : IntKind.i64.wrap ((k : Int) + 1) = (k : Int) + 1 := IntWalk.i64_in _ (by omega)
     obtain ⟨gb, off, y, ya, yc, za, zc, rfl, hy, hgb, -, ⟨e0, -, -, -, -, -⟩, -, -⟩ := HKT.out.nth k hkn
     have hst := valF_step false x.kids k y hy
     obtain ⟨Y, hY⟩ : ∃ s, y.kind = s := ⟨_, rfl⟩
     rw [hY] at e0 hst
     rw [hq] at hst ⊢
     have HS := Lib.hid hst
     clear hst hq hy hY
     cases q with
     | false =>
      go_wp2_with fail
      exact ⟨⟨k + 1, by simp, by omega, by rw [HS.out]; simp, by trivial⟩, by simp only [intOf]; omega⟩
     | true =>
      by_cases h10 : Y = 10
      · subst h10
        go_wp2_with fail
        exact ⟨⟨k + 1, by simp, by omega, by rw [HS.out]; simp, by trivial⟩, by simp only [intOf]; omega⟩
      · have b10 : (Y == 10) = false := beq_eq_false_iff_ne.2 h10
        by_cases h11 : Y = 11
        · subst h11
          go_wp2_with fail
          exact ⟨⟨k + 1, by simp, by omega, by rw [HS.out]; simp, by trivial⟩, by simp only [intOf]; omega⟩
        · have b11 : (Y == 11) = false := beq_eq_false_iff_ne.2 h11
          go_wp2_with fail
          exact ⟨⟨k + 1, by simp, by omega, by rw [HS.out]; simp [b10, b11, bne], by trivial⟩, by simp only [intOf]; omega⟩
   · obtain rfl : k = n := by omega
     have hdec : decide ((k : Int) < (k : Int)) = false := by simp
     have HQ := Lib.hid hq
     rw [hq]
     clear hq
     have HOO := HO
     have HBW := Lib.hid (Below.refl W.heap.size W)
     obtain ⟨n, hn⟩ : ∃ n, k = n := ⟨_, rfl⟩
     subst hn
     clear c0 c1 c2 c3 c4 c5
     have c0 := HBK.out.c 0 _ rfl
     have c1 := HBK.out.c 1 _ rfl
     have c2 := HBK.out.c 2 _ rfl
     have c3 := HBK.out.c 3 _ rfl
     have c4 := HBK.out.c 4 _ rfl
     have c5 := HBK.out.c 5 _ rfl
     go_wp2_with fail
     clear c0 c1 c2 c3 c4 c5
     go_loopw [6] (fun y wr => ∃ j : Nat, y = .int .i64 (j : Int) ∧ j ≤ k ∧ Hid (oneB x = (x.kids.drop j).all litB) ∧ Hid (Below W.heap.size W wr)) (fun y _ => k - (intOf y).toNat)
     case atStart => exact ⟨0, rfl, Nat.zero_le _, Lib.hid (by rw [HOO.out]; simp), HBW⟩
     case round =>
      obtain ⟨j, rfl, hj, hp, hbr⟩ := hrel
      have c0 := (HBK.out.below hbr.out HBK.out.lt).c 0 _ rfl
      have c1 := (HBK.out.below hbr.out HBK.out.lt).c 1 _ rfl
      have c2 := (HBK.out.below hbr.out HBK.out.lt).c 2 _ rfl
      have c3 := (HBK.out.below hbr.out HBK.out.lt).c 3 _ rfl
      have c4 := (HBK.out.below hbr.out HBK.out.lt).c 4 _ rfl
      have c5 := (HBK.out.below hbr.out HBK.out.lt).c 5 _ rfl
      by_cases hjk : j < k
      · have hdec2 : decide ((j : Int) < (k : Int)) = true := by simpa using hjk
        have hkw : IntKind.i64.wrap ((j : Int) + 1) = (j : Int) + 1 := IntWalk.i64_in _ (by omega)
        obtain ⟨gb', off', y, ya, yc, za, zc, hgo, hy, hgb, -, ⟨e0, e1, e2, e3, e4, e5⟩, hyk, -⟩ := (HKT.out.bel hbr.out).nth j hjk
        subst hgo
        have hdr : x.kids.drop j = y :: x.kids.drop (j + 1) := drop_at hy
        have hp2 := hp.out
        rw [hdr, List.all_cons] at hp2
        have HH := rliteral_any (x := y) (kv := .slice ya y.kids.length yc) (nv := .slice za y.names.length zc) (w := wr)
        unfold ndV at HH
        obtain ⟨r, hr⟩ : ∃ r, litB y = r := ⟨_, rfl⟩
        rw [hr] at HH hp2
        replace HH := Lib.hid HH
        have HP := Lib.hid hp2
        clear hy hyk hdr hp2 hp hr
        go_wp2_with fail
        refine HH.out.mono ?_; rintro e w5 ⟨rfl, hb5⟩
        have HB5 := Lib.hid (hbr.out.trans (hb5.mono hbr.out.size))
        clear hb5
        cases r with
        | false =>
         go_wp2_with fail
         go_ret
         exact ⟨by rw [HP.out]; simp, HX.out.trans (HB5.out.mono HX.out.size)⟩
        | true =>
         have HP2 := Lib.hid (HP.out.trans (Bool.true_and _))
         clear HP c0 c1 c2 c3 c4 c5 e0 e1 e2 e3 e4 e5
         go_wp2_with fail
         exact ⟨⟨j + 1, by simp, by omega, HP2, HB5⟩, by simp only [intOf]; omega⟩
      · obtain rfl : j = k := by omega
        have hdec2 : decide ((j : Int) < (j : Int)) = false := by simp
        have HA : Hid (oneB x = true) := Lib.hid (by rw [hp.out, List.drop_eq_nil_of_le (by have := HNN.out; omega)]; rfl)
        clear hp
        go_wp2_with fail
        go_ret
        exact ⟨by rw [HA.out]; first | done | rfl | simp, HX.out.trans (hbr.out.mono HX.out.size)⟩
set_option maxRecDepth 100000 in
set_option maxHeartbeats 3200000 in
theorem rone_7 (hK : x.kind = 7) (hk : Tree (fun _ => True) w kv x.kids) (hn : Rd (fun _ => True) strV w nv x.names) : Calls Tryz.prog 75 #[ndV x kv nv] w (Back (.bool (oneB x)) w) := by
 obtain ⟨ka, kc, rfl, hkc, hkm⟩ := hk.form
 obtain ⟨na, nc, rfl, hnc, hnm2⟩ := hn.form
 unfold maxLen at hkm hnm2
 have ho := one7 hK
 obtain ⟨n, hnn⟩ : ∃ n, x.kids.length = n := ⟨_, rfl⟩
 obtain ⟨nl, hnl⟩ : ∃ n, x.names.length = n := ⟨_, rfl⟩
 unfold ndV
 rw [hK]
 rw [hnn] at hk hkc ⊢
 rw [hnl] at hn hnc ⊢
 try rw [hnn] at ho
 try rw [hnl] at ho
 obtain ⟨z, hz⟩ : ∃ s, x.num = s := ⟨_, rfl⟩
 rw [hz] at ho ⊢
 by_cases hz0 : z = 0
 case neg =>
  have bz : (z == 0) = false := beq_eq_false_iff_ne.2 hz0
  have HO : Hid (oneB x = false) := Lib.hid (by rw [ho]; simp_all)
  clear ho hk hn hK
  go_enter Tryz.func75, Tryz.ntmps75
  go_wp2_with fail
  go_ret
  exact ⟨by rw [HO.out]; first | done | rfl | simp, alloc_bel _ _⟩
 subst hz0
 by_cases hl0 : nl = 0
 case neg =>
  have bl : decide (0 < nl) = true := decide_eq_true (by omega)
  have bl2 : ((nl : Int) == 0) = false := beq_eq_false_iff_ne.2 (by omega)
  have HO : Hid (oneB x = false) := Lib.hid (by rw [ho]; simp_all)
  clear ho hk hn hK
  go_enter Tryz.func75, Tryz.ntmps75
  go_wp2_with fail
  go_ret
  exact ⟨by rw [HO.out]; first | done | rfl | simp, alloc_bel _ _⟩
 subst hl0
 have HO : Hid (oneB x = (decide (0 ≤ Lx.arityL x.name) && (n : Int) == Lx.arityL x.name + 1 && valF true x.kids n)) := Lib.hid (by rw [ho]; simp)
 have HX := Lib.hid (alloc_bel w (.cells #[.int .i64 7, .string ⟨x.name.toArray⟩, .int .i64 0, .slice ka n kc, .slice na 0 nc, .int .i64 x.at_] 45))
 obtain ⟨W, hW⟩ : ∃ W, w.alloc (.cells #[.int .i64 7, .string ⟨x.name.toArray⟩, .int .i64 0, .slice ka n kc, .slice na 0 nc, .int .i64 x.at_] 45) = W := ⟨_, rfl⟩
 have hbk := Blk.made (T := 45) (cs := #[.int .i64 7, .string ⟨x.name.toArray⟩, .int .i64 0, .slice ka n kc, .slice na 0 nc, .int .i64 x.at_]) w
 rw [hW] at hbk HX
 have HBK := Lib.hid hbk
 have HKT := Lib.hid (hk.bel HX.out)
 have HNT := Lib.hid (hn.below HX.out)
 have HNN := Lib.hid hnn
 have c0 := hbk.c 0 _ rfl
 have c1 := hbk.c 1 _ rfl
 have c2 := hbk.c 2 _ rfl
 have c3 := hbk.c 3 _ rfl
 have c4 := hbk.c 4 _ rfl
 have c5 := hbk.c 5 _ rfl
 clear ho hk hn hK hbk hnn hnl hz
 go_enter Tryz.func75, Tryz.ntmps75
 go_wp2_with fail
 clear hW
 go_loopw [5, 4] (fun y v wr => ∃ k : Nat, y = .int .i64 (k : Int) ∧ k ≤ n ∧ v = .bool (valF true x.kids k) ∧ W = wr) (fun y _ _ => n - (intOf y).toNat)
 case atStart => exact ⟨0, rfl, Nat.zero_le _, rfl, rfl⟩
 case round =>
  obtain ⟨k, rfl, hk, rfl, rfl⟩ := hrel
  obtain ⟨q, hq⟩ : ∃ q, valF true x.kids k = q := ⟨_, rfl⟩
  by_cases hkn : k < n
  · have hdec : decide ((k : Int) < (n : Int)) = true := by simpa using hkn
    have hkw : IntKind.i64.wrap ((k : Int) + 1) = (k : Int) + 1 := IntWalk.i64_in _ (by omega)
    obtain ⟨gb, off, y, ya, yc, za, zc, rfl, hy, hgb, -, ⟨e0, -, -, -, -, -⟩, -, -⟩ := HKT.out.nth k hkn
    have hst := valF_step true x.kids k y hy
    obtain ⟨Y, hY⟩ : ∃ s, y.kind = s := ⟨_, rfl⟩
    rw [hY] at e0 hst
    rw [hq] at hst ⊢
    have HS := Lib.hid hst
    clear hst hq hy hY
    cases q with
    | false =>
     go_wp2_with fail
     exact ⟨⟨k + 1, by simp, by omega, by rw [HS.out]; simp, by trivial⟩, by simp only [intOf]; omega⟩
    | true =>
     by_cases h10 : Y = 10
     · subst h10
       go_wp2_with fail
       exact ⟨⟨k + 1, by simp, by omega, by rw [HS.out]; simp, by trivial⟩, by simp only [intOf]; omega⟩
     · have b10 : (Y == 10) = false := beq_eq_false_iff_ne.2 h10
       by_cases h11 : Y = 11
       · subst h11
         by_cases hk0 : k = 0
         · have bk : ((k : Int) == 0) = true := beq_iff_eq.2 (by omega)
           have HK0 := Lib.hid hk0
           clear hk0
           go_wp2_with fail
           exact ⟨⟨k + 1, by simp, by omega, by rw [HS.out, HK0.out]; simp, by trivial⟩, by simp only [intOf]; omega⟩
         · have bk : ((k : Int) == 0) = false := beq_eq_false_iff_ne.2 (by omega)
           go_wp2_with fail
           exact ⟨⟨k + 1, by simp, by omega, by rw [HS.out]; simp [hk0], by trivial⟩, by simp only [intOf]; omega⟩
       · have b11 : (Y == 11) = false := beq_eq_false_iff_ne.2 h11
         go_wp2_with fail
         exact ⟨⟨k + 1, by simp, by omega, by rw [HS.out]; simp [b10, b11, bne], by trivial⟩, by simp only [intOf]; omega⟩
  · obtain rfl : k = n := by omega
    have hdec : decide ((k : Int) < (k : Int)) = false := by simp
    have HQ := Lib.hid hq
    rw [hq]
    clear hq
    have HA := fun w' => rarity_all x.name w'
    have har := arity_in x.name
    unfold strV at HA
    obtain ⟨r, hr⟩ : ∃ r, Lx.arityL x.name = r := ⟨_, rfl⟩
    rw [hr] at HA har
    replace HA := Lib.hid HA
    have HR := Lib.hid hr
    have hrw : IntKind.i64.wrap (r + 1) = r + 1 := IntWalk.i64_in _ (by omega)
    clear hr
    by_cases h0 : 0 ≤ r
    · have b0 : decide (0 ≤ r) = true := decide_eq_true h0
      by_cases hk0 : (k : Int) = r + 1
      · have bk : ((k : Int) == r + 1) = true := beq_iff_eq.2 hk0
        clear hk0
        go_wp2_with fail
        refine (HA.out _).mono ?_; rintro e w1 ⟨rfl, hw1⟩; obtain rfl := hw1.symm
        go_wp2_with fail
        go_ret
        exact ⟨by rw [HO.out, HR.out, b0, bk, HQ.out]; simp, HX.out⟩
      · have bk : ((k : Int) == r + 1) = false := beq_eq_false_iff_ne.2 hk0
        go_wp2_with fail
        refine (HA.out _).mono ?_; rintro e w1 ⟨rfl, hw1⟩; obtain rfl := hw1.symm
        go_wp2_with fail
        go_ret
        exact ⟨by rw [HO.out, HR.out, b0, bk]; simp, HX.out⟩
    · have b0 : decide (0 ≤ r) = false := decide_eq_false h0
      go_wp2_with fail
      refine (HA.out _).mono ?_; rintro e w1 ⟨rfl, hw1⟩; obtain rfl := hw1.symm
      go_wp2_with fail
      go_ret
      exact ⟨by rw [HO.out, HR.out, b0]; simp, HX.out⟩
set_option maxRecDepth 100000 in
set_option maxHeartbeats 3200000 in
theorem rone_9 (hK : x.kind = 9) (hk : Tree (fun _ => True) w kv x.kids) (hn : Rd (fun _ => True) strV w nv x.names) : Calls Tryz.prog 75 #[ndV x kv nv] w (Back (.bool (oneB x)) w) := by
 obtain ⟨ka, kc, rfl, hkc, hkm⟩ := hk.form
 obtain ⟨na, nc, rfl, hnc, hnm2⟩ := hn.form
 unfold maxLen at hkm hnm2
 have ho := one9 hK
 obtain ⟨n, hnn⟩ : ∃ n, x.kids.length = n := ⟨_, rfl⟩
 obtain ⟨nl, hnl⟩ : ∃ n, x.names.length = n := ⟨_, rfl⟩
 unfold ndV
 rw [hK]
 rw [hnn] at hk hkc ⊢
 rw [hnl] at hn hnc ⊢
 try rw [hnn] at ho
 try rw [hnl] at ho
 obtain ⟨nm, hnm⟩ : ∃ s, x.name = s := ⟨_, rfl⟩
 rw [hnm] at ho ⊢
 cases nm with
 | cons c t =>
  have HO : Hid (oneB x = false) := Lib.hid (by rw [ho]; simp_all)
  clear ho hk hn hK
  go_enter Tryz.func75, Tryz.ntmps75
  go_wp2_with fail
  go_ret
  exact ⟨by rw [HO.out]; first | done | rfl | simp, alloc_bel _ _⟩
 | nil =>
  have HO : Hid (oneB x = (decide (0 ≤ x.num) && decide (x.num ≤ (nl : Int)) && x.names.all isName && bodyB x.kids)) := Lib.hid (by rw [ho]; simp)
  have HX := Lib.hid (alloc_bel w (.cells #[.int .i64 9, .string ⟨([] : List UInt8).toArray⟩, .int .i64 x.num, .slice ka n kc, .slice na nl nc, .int .i64 x.at_] 45))
  obtain ⟨W, hW⟩ : ∃ W, w.alloc (.cells #[.int .i64 9, .string ⟨([] : List UInt8).toArray⟩, .int .i64 x.num, .slice ka n kc, .slice na nl nc, .int .i64 x.at_] 45) = W := ⟨_, rfl⟩
  have hbk := Blk.made (T := 45) (cs := #[.int .i64 9, .string ⟨([] : List UInt8).toArray⟩, .int .i64 x.num, .slice ka n kc, .slice na nl nc, .int .i64 x.at_]) w
  rw [hW] at hbk HX
  have HBK := Lib.hid hbk
  have HKT := Lib.hid (hk.bel HX.out)
  have HNT := Lib.hid (hn.below HX.out)
  have HNN := Lib.hid hnn
  have c0 := hbk.c 0 _ rfl
  have c1 := hbk.c 1 _ rfl
  have c2 := hbk.c 2 _ rfl
  have c3 := hbk.c 3 _ rfl
  have c4 := hbk.c 4 _ rfl
  have c5 := hbk.c 5 _ rfl
  clear ho hk hn hK hbk hnn hnl hnm
  go_enter Tryz.func75, Tryz.ntmps75
  go_wp2_with fail
  clear hW
  go_loopw [5, 4] (fun y v wr => ∃ k : Nat, y = .int .i64 (k : Int) ∧ k ≤ n ∧ v = .bool (valF false x.kids k) ∧ W = wr) (fun y _ _ => n - (intOf y).toNat)
  case atStart => exact ⟨0, rfl, Nat.zero_le _, rfl, rfl⟩
  case round =>
   obtain ⟨k, rfl, hk, rfl, rfl⟩ := hrel
   obtain ⟨q, hq⟩ : ∃ q, valF false x.kids k = q := ⟨_, rfl⟩
   by_cases hkn : k < n
   · have hdec : decide ((k : Int) < (n : Int)) = true := by simpa using hkn
     have hkw : IntKind.i64.wrap ((k : Int) + 1) = (k : Int) + 1 := IntWalk.i64_in _ (by omega)
     obtain ⟨gb, off, y, ya, yc, za, zc, rfl, hy, hgb, -, ⟨e0, -, -, -, -, -⟩, -, -⟩ := HKT.out.nth k hkn
     have hst := valF_step false x.kids k y hy
     obtain ⟨Y, hY⟩ : ∃ s, y.kind = s := ⟨_, rfl⟩
     rw [hY] at e0 hst
     rw [hq] at hst ⊢
     have HS := Lib.hid hst
     clear hst hq hy hY
     cases q with
     | false =>
      go_wp2_with fail
      exact ⟨⟨k + 1, by simp, by omega, by rw [HS.out]; simp, by trivial⟩, by simp only [intOf]; omega⟩
     | true =>
      by_cases h10 : Y = 10
      · subst h10
        go_wp2_with fail
        exact ⟨⟨k + 1, by simp, by omega, by rw [HS.out]; simp, by trivial⟩, by simp only [intOf]; omega⟩
      · have b10 : (Y == 10) = false := beq_eq_false_iff_ne.2 h10
        by_cases h11 : Y = 11
        · subst h11
          go_wp2_with fail
          exact ⟨⟨k + 1, by simp, by omega, by rw [HS.out]; simp, by trivial⟩, by simp only [intOf]; omega⟩
        · have b11 : (Y == 11) = false := beq_eq_false_iff_ne.2 h11
          go_wp2_with fail
          exact ⟨⟨k + 1, by simp, by omega, by rw [HS.out]; simp [b10, b11, bne], by trivial⟩, by simp only [intOf]; omega⟩
   · obtain rfl : k = n := by omega
     have hdec : decide ((k : Int) < (k : Int)) = false := by simp
     have HQ := Lib.hid hq
     rw [hq]
     clear hq
     by_cases h0 : 0 ≤ x.num
     case neg =>
      have b0 : decide (0 ≤ x.num) = false := decide_eq_false h0
      go_wp2_with fail
      go_ret
      exact ⟨by rw [HO.out, b0]; simp, HX.out⟩
     have b0 : decide (0 ≤ x.num) = true := decide_eq_true h0
     by_cases h1 : x.num ≤ (nl : Int)
     case neg =>
      have b1 : decide (x.num ≤ (nl : Int)) = false := decide_eq_false h1
      go_wp2_with fail
      go_ret
      exact ⟨by rw [HO.out, b0, b1]; simp, HX.out⟩
     have b1 : decide (x.num ≤ (nl : Int)) = true := decide_eq_true h1
     have HN := Lib.hid (rnames_any _ x.names _ HNT.out)
     have HBD := Lib.hid (rbody_any _ x.kids _ HKT.out)
     obtain ⟨r, hr⟩ : ∃ r, x.names.all isName = r := ⟨_, rfl⟩
     rw [hr] at HN
     have HR := Lib.hid hr
     clear hr
     go_wp2_with fail
     refine HN.out.mono ?_; rintro e w1 ⟨rfl, hw1⟩; obtain rfl := hw1.symm
     cases r with
     | false =>
      go_wp2_with fail
      go_ret
      exact ⟨by rw [HO.out, b0, b1, HR.out]; simp, HX.out⟩
     | true =>
      go_wp2_with fail
      refine HBD.out.mono ?_; rintro e w1 ⟨rfl, hw1⟩; obtain rfl := hw1.symm
      go_wp2_with fail
      go_ret
      exact ⟨by rw [HO.out, b0, b1, HR.out]; simp, HX.out⟩
set_option maxRecDepth 100000 in
set_option maxHeartbeats 3200000 in
theorem rone_8 (hK : x.kind = 8) (hk : Tree (fun _ => True) w kv x.kids) (hn : Rd (fun _ => True) strV w nv x.names) : Calls Tryz.prog 75 #[ndV x kv nv] w (Back (.bool (oneB x)) w) := by
 obtain ⟨ka, kc, rfl, hkc, hkm⟩ := hk.form
 obtain ⟨na, nc, rfl, hnc, hnm2⟩ := hn.form
 unfold maxLen at hkm hnm2
 have ho := one8 hK
 obtain ⟨n, hnn⟩ : ∃ n, x.kids.length = n := ⟨_, rfl⟩
 obtain ⟨nl, hnl⟩ : ∃ n, x.names.length = n := ⟨_, rfl⟩
 unfold ndV
 rw [hK]
 rw [hnn] at hk hkc ⊢
 rw [hnl] at hn hnc ⊢
 try rw [hnn] at ho
 try rw [hnl] at ho
 obtain ⟨nm, hnm⟩ : ∃ s, x.name = s := ⟨_, rfl⟩
 rw [hnm] at ho ⊢
 cases nm with
 | cons c t =>
  have HO : Hid (oneB x = false) := Lib.hid (by rw [ho]; simp_all)
  clear ho hk hn hK
  go_enter Tryz.func75, Tryz.ntmps75
  go_wp2_with fail
  go_ret
  exact ⟨by rw [HO.out]; first | done | rfl | simp, alloc_bel _ _⟩
 | nil =>
  obtain ⟨z, hz⟩ : ∃ s, x.num = s := ⟨_, rfl⟩
  rw [hz] at ho ⊢
  by_cases hz0 : z = 0
  case neg =>
   have bz : (z == 0) = false := beq_eq_false_iff_ne.2 hz0
   have HO : Hid (oneB x = false) := Lib.hid (by rw [ho]; simp_all)
   clear ho hk hn hK
   go_enter Tryz.func75, Tryz.ntmps75
   go_wp2_with fail
   go_ret
   exact ⟨by rw [HO.out]; first | done | rfl | simp, alloc_bel _ _⟩
  subst hz0
  by_cases hl0 : nl = 0
  case neg =>
   have bl : decide (0 < nl) = true := decide_eq_true (by omega)
   have bl2 : ((nl : Int) == 0) = false := beq_eq_false_iff_ne.2 (by omega)
   have HO : Hid (oneB x = false) := Lib.hid (by rw [ho]; simp_all)
   clear ho hk hn hK
   go_enter Tryz.func75, Tryz.ntmps75
   go_wp2_with fail
   go_ret
   exact ⟨by rw [HO.out]; first | done | rfl | simp, alloc_bel _ _⟩
  subst hl0
  have HBK8 : Hid (x.kind = 8) := Lib.hid hK
  have HO : Hid (oneB x = (decide (2 ≤ n) && kidsB x)) := Lib.hid (by rw [ho]; simp)
  have HX := Lib.hid (alloc_bel w (.cells #[.int .i64 8, .string ⟨([] : List UInt8).toArray⟩, .int .i64 0, .slice ka n kc, .slice na 0 nc, .int .i64 x.at_] 45))
  obtain ⟨W, hW⟩ : ∃ W, w.alloc (.cells #[.int .i64 8, .string ⟨([] : List UInt8).toArray⟩, .int .i64 0, .slice ka n kc, .slice na 0 nc, .int .i64 x.at_] 45) = W := ⟨_, rfl⟩
  have hbk := Blk.made (T := 45) (cs := #[.int .i64 8, .string ⟨([] : List UInt8).toArray⟩, .int .i64 0, .slice ka n kc, .slice na 0 nc, .int .i64 x.at_]) w
  rw [hW] at hbk HX
  have HBK := Lib.hid hbk
  have HKT := Lib.hid (hk.bel HX.out)
  have HNT := Lib.hid (hn.below HX.out)
  have HNN := Lib.hid hnn
  have c0 := hbk.c 0 _ rfl
  have c1 := hbk.c 1 _ rfl
  have c2 := hbk.c 2 _ rfl
  have c3 := hbk.c 3 _ rfl
  have c4 := hbk.c 4 _ rfl
  have c5 := hbk.c 5 _ rfl
  clear ho hk hn hK hbk hnn hnl hnm hz
  go_enter Tryz.func75, Tryz.ntmps75
  go_wp2_with fail
  clear hW
  go_loopw [5, 4] (fun y v wr => ∃ k : Nat, y = .int .i64 (k : Int) ∧ k ≤ n ∧ v = .bool (valF false x.kids k) ∧ W = wr) (fun y _ _ => n - (intOf y).toNat)
  case atStart => exact ⟨0, rfl, Nat.zero_le _, rfl, rfl⟩
  case round =>
   obtain ⟨k, rfl, hk, rfl, rfl⟩ := hrel
   obtain ⟨q, hq⟩ : ∃ q, valF false x.kids k = q := ⟨_, rfl⟩
   by_cases hkn : k < n
   · have hdec : decide ((k : Int) < (n : Int)) = true := by simpa using hkn
     have hkw : IntKind.i64.wrap ((k : Int) + 1) = (k : Int) + 1 := IntWalk.i64_in _ (by omega)
     obtain ⟨gb, off, y, ya, yc, za, zc, rfl, hy, hgb, -, ⟨e0, -, -, -, -, -⟩, -, -⟩ := HKT.out.nth k hkn
     have hst := valF_step false x.kids k y hy
     obtain ⟨Y, hY⟩ : ∃ s, y.kind = s := ⟨_, rfl⟩
     rw [hY] at e0 hst
     rw [hq] at hst ⊢
     have HS := Lib.hid hst
     clear hst hq hy hY
     cases q with
     | false =>
      go_wp2_with fail
      exact ⟨⟨k + 1, by simp, by omega, by rw [HS.out]; simp, by trivial⟩, by simp only [intOf]; omega⟩
     | true =>
      by_cases h10 : Y = 10
      · subst h10
        go_wp2_with fail
        exact ⟨⟨k + 1, by simp, by omega, by rw [HS.out]; simp, by trivial⟩, by simp only [intOf]; omega⟩
      · have b10 : (Y == 10) = false := beq_eq_false_iff_ne.2 h10
        by_cases h11 : Y = 11
        · subst h11
          go_wp2_with fail
          exact ⟨⟨k + 1, by simp, by omega, by rw [HS.out]; simp, by trivial⟩, by simp only [intOf]; omega⟩
        · have b11 : (Y == 11) = false := beq_eq_false_iff_ne.2 h11
          go_wp2_with fail
          exact ⟨⟨k + 1, by simp, by omega, by rw [HS.out]; simp [b10, b11, bne], by trivial⟩, by simp only [intOf]; omega⟩
   · obtain rfl : k = n := by omega
     have hdec : decide ((k : Int) < (k : Int)) = false := by simp
     have HQ := Lib.hid hq
     rw [hq]
     clear hq
     have HK : Hid (kidsB x = (match x.kids with | [] => false | y :: l => y.kind == 7 && !holed y && l.all holed)) := Lib.hid (by
      have hK8 : x.kind = 8 := by
       have := HBK8.out
       exact this
      unfold kidsB
      rw [hK8, if_neg (by decide), if_neg (by decide), if_pos rfl]
      cases x.kids <;> rfl)
     by_cases h2 : 2 ≤ k
     case neg =>
      have b2 : decide ((k : Int) < 2) = true := decide_eq_true (by omega)
      have b2n : decide (k < 2) = true := decide_eq_true (by omega)
      go_wp2_with fail
      go_ret
      exact ⟨by rw [HO.out, decide_eq_false h2]; simp, HX.out⟩
     have b2 : decide ((k : Int) < 2) = false := decide_eq_false (by omega)
     have b2n : decide (k < 2) = false := decide_eq_false (by omega)
     have b2t : decide (2 ≤ k) = true := decide_eq_true h2
     have k0 : 0 < k := by omega
     obtain ⟨gb, off, y, ya, yc, za, zc, rfl, hy, hgb, -, ⟨e0, e1, e2, e3, e4, e5⟩, hyk, -⟩ := HKT.out.nth 0 (by omega)
     simp only [Nat.zero_mul, Nat.add_zero] at e0 e1 e2 e3 e4 e5
     obtain ⟨l, hl⟩ : ∃ l, x.kids = y :: l := by
      cases h : x.kids with
      | nil => have := HNN.out; rw [h] at this; simp at this; omega
      | cons z l => rw [h] at hy; cases hy; exact ⟨l, rfl⟩
     have HOO : Hid (oneB x = (y.kind == 7 && !holed y && l.all holed)) := Lib.hid (by rw [HO.out, b2t, HK.out, hl]; simp)
     have HLL : Hid (∀ j z, x.kids[j + 1]? = some z → l[j]? = some z) := Lib.hid (fun j z hz => by rw [hl] at hz; simpa using hz)
     have HLN : Hid (l.length + 1 = k) := Lib.hid (by have := HNN.out; rw [hl] at this; simpa using this)
     have HH := rholed_any (x := y) (w := W) (nv := .slice za y.names.length zc) hyk
     unfold ndV at HH
     obtain ⟨Y, hY⟩ : ∃ s, y.kind = s := ⟨_, rfl⟩
     rw [hY] at e0 HH HOO
     obtain ⟨r, hr⟩ : ∃ r, holed y = r := ⟨_, rfl⟩
     rw [hr] at HH HOO
     replace HH := Lib.hid HH
     clear hy hyk hl hY hr HK h2
     by_cases h7 : Y = 7
     case neg =>
      have b7 : (Y == 7) = false := beq_eq_false_iff_ne.2 h7
      go_wp2_with fail
      go_ret
      exact ⟨by rw [HOO.out, b7]; simp, HX.out⟩
     subst h7
     go_wp2_with fail
     refine HH.out.mono ?_; rintro e w1 ⟨rfl, hb1⟩
     have HX1 := Lib.hid (HX.out.trans (hb1.mono HX.out.size))
     have HBW := Lib.hid hb1
     cases r with
     | true =>
      go_wp2_with fail
      go_ret
      exact ⟨by rw [HOO.out]; simp, HX1.out⟩
     | false =>
      clear e0 e1 e2 e3 e4 e5 hb1
      obtain ⟨n, hn⟩ : ∃ n, k = n := ⟨_, rfl⟩
      subst hn
      clear c0 c1 c2 c3 c4 c5
      have c0 := (HBK.out.below HBW.out HBK.out.lt).c 0 _ rfl
      have c1 := (HBK.out.below HBW.out HBK.out.lt).c 1 _ rfl
      have c2 := (HBK.out.below HBW.out HBK.out.lt).c 2 _ rfl
      have c3 := (HBK.out.below HBW.out HBK.out.lt).c 3 _ rfl
      have c4 := (HBK.out.below HBW.out HBK.out.lt).c 4 _ rfl
      have c5 := (HBK.out.below HBW.out HBK.out.lt).c 5 _ rfl
      go_wp2_with fail
      clear c0 c1 c2 c3 c4 c5
      go_loopw [8] (fun y wr => ∃ j : Nat, y = .int .i64 (j : Int) ∧ 1 ≤ j ∧ j ≤ k ∧ Hid (oneB x = (l.drop (j - 1)).all holed) ∧ Hid (Below W.heap.size W wr)) (fun y _ => k - (intOf y).toNat)
      case atStart => exact ⟨1, rfl, Nat.le_refl _, by omega, Lib.hid (by rw [HOO.out]; simp), HBW⟩
      case round =>
       obtain ⟨j, rfl, hj1, hj, hp, hbr⟩ := hrel
       have c0 := (HBK.out.below hbr.out HBK.out.lt).c 0 _ rfl
       have c1 := (HBK.out.below hbr.out HBK.out.lt).c 1 _ rfl
       have c2 := (HBK.out.below hbr.out HBK.out.lt).c 2 _ rfl
       have c3 := (HBK.out.below hbr.out HBK.out.lt).c 3 _ rfl
       have c4 := (HBK.out.below hbr.out HBK.out.lt).c 4 _ rfl
       have c5 := (HBK.out.below hbr.out HBK.out.lt).c 5 _ rfl
       by_cases hjk : j < k
       · have hdec2 : decide ((j : Int) < (k : Int)) = true := by simpa using hjk
         have hkw : IntKind.i64.wrap ((j : Int) + 1) = (j : Int) + 1 := IntWalk.i64_in _ (by omega)
         obtain ⟨gb', off', y, ya, yc, za, zc, hgo, hy, hgb, -, ⟨e0, e1, e2, e3, e4, e5⟩, hyk, -⟩ := (HKT.out.bel hbr.out).nth j hjk
         cases hgo
         obtain ⟨i, hij⟩ : ∃ i, j = i + 1 := ⟨j - 1, by omega⟩
         have hly : l[i]? = some y := HLL.out i y (by rw [← hij]; exact hy)
         have hdr : l.drop i = y :: l.drop (i + 1) := drop_at hly
         have hp2 := hp.out
         have hji : j - 1 = i := by omega
         have hji2 : j + 1 - 1 = i + 1 := by omega
         rw [hji, hdr, List.all_cons, ← hji2] at hp2
         have HH := rholed_any (x := y) (nv := .slice za y.names.length zc) (w := wr) hyk
         unfold ndV at HH
         obtain ⟨r, hr⟩ : ∃ r, holed y = r := ⟨_, rfl⟩
         rw [hr] at HH hp2
         replace HH := Lib.hid HH
         have HP := Lib.hid hp2
         clear hy hyk hdr hp2 hp hr hly hij hji hji2
         go_wp2_with fail
         refine HH.out.mono ?_; rintro e w5 ⟨rfl, hb5⟩
         have HB5 := Lib.hid (hbr.out.trans (hb5.mono hbr.out.size))
         clear hb5
         cases r with
         | false =>
          go_wp2_with fail
          go_ret
          exact ⟨by rw [HP.out]; simp, HX.out.trans (HB5.out.mono HX.out.size)⟩
         | true =>
          have HP2 := Lib.hid (HP.out.trans (Bool.true_and _))
          clear HP c0 c1 c2 c3 c4 c5 e0 e1 e2 e3 e4 e5
          go_wp2_with fail
          exact ⟨⟨j + 1, by simp, by omega, by omega, HP2, HB5⟩, by simp only [intOf]; omega⟩
       · obtain rfl : j = k := by omega
         have hdec2 : decide ((j : Int) < (j : Int)) = false := by simp
         have HA : Hid (oneB x = true) := Lib.hid (by rw [hp.out, List.drop_eq_nil_of_le (by have := HLN.out; omega)]; rfl)
         clear hp
         go_wp2_with fail
         go_ret
         exact ⟨by rw [HA.out]; first | done | rfl | simp, HX.out.trans (hbr.out.mono HX.out.size)⟩
end
end Tr
end Go.Proofs.YtfbhokdcnjekiaaGreatDoor
