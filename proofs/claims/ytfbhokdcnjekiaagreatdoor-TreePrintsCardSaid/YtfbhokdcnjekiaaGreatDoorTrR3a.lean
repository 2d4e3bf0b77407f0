/- The reference's one: kinds 1, 2, 3, 5, 6, 10, 11 (printed by gen_trr3.py). -/
import Derived.Test.YtfbhokdcnjekiaaGreatDoorTrR2
import Derived.Test.YtfbhokdcnjekiaaGreatDoorTrMa
set_option linter.unusedVariables false
namespace Go.Proofs.YtfbhokdcnjekiaaGreatDoor
open Go.RowKit
namespace Tr
open Bs Sm
section
variable {x : Nd} {kv nv : Value} {w : World}
set_option maxRecDepth 100000 in
set_option maxHeartbeats 3200000 in
theorem rone_1 (hK : x.kind = 1) (hk : Tree (fun _ => True) w kv x.kids) (hn : Rd (fun _ => True) strV w nv x.names) : Calls Tryz.prog 75 #[ndV x kv nv] w (Back (.bool (oneB x)) w) := by
 obtain ⟨ka, kc, rfl, hkc, hkm⟩ := hk.form
 obtain ⟨na, nc, rfl, hnc, hnm2⟩ := hn.form
 unfold maxLen at hkm hnm2
 have ho := one1 hK
 obtain ⟨n, hnn⟩ : ∃ n, x.kids.length = n := ⟨_, rfl⟩
 obtain ⟨nl, hnl⟩ : ∃ n, x.names.length = n := ⟨_, rfl⟩
 unfold ndV
 rw [hK]
 rw [hnn] at hk hkc ⊢
 rw [hnl] at hn hnc ⊢
 try rw [hnn] at ho
 try rw [hnl] at ho
 obtain ⟨nm, hnm⟩ : ∃ s, x.name = s := ⟨_, rfl⟩
 try rw [hnm] at ho
 rw [hnm]
 cases nm with
 | cons c t =>
  have HO : Hid (oneB x = false) := Lib.hid (by rw [ho]; try simp_all)
  clear ho hk hn hK
  go_enter Tryz.func75, Tryz.ntmps75
  go_wp2_with fail
  go_ret
  exact ⟨by rw [HO.out]; first | done | rfl | simp, alloc_bel _ _⟩
 | nil =>
  by_cases hl0 : nl = 0
  case neg =>
   have bl : decide (0 < nl) = true := decide_eq_true (by omega)
   have bl2 : ((nl : Int) == 0) = false := beq_eq_false_iff_ne.2 (by omega)
   have HO : Hid (oneB x = false) := Lib.hid (by rw [ho]; try simp_all)
   clear ho hk hn hK
   go_enter Tryz.func75, Tryz.ntmps75
   go_wp2_with fail
   go_ret
   exact ⟨by rw [HO.out]; first | done | rfl | simp, alloc_bel _ _⟩
  subst hl0
  have HO : Hid (oneB x = ((n : Int) == 0)) := Lib.hid (by rw [ho]; try simp)
  have HX := Lib.hid (alloc_bel w (.cells #[.int .i64 1, .string ⟨([] : List UInt8).toArray⟩, .int .i64 x.num, .slice ka n kc, .slice na 0 nc, .int .i64 x.at_] 45))
  obtain ⟨W, hW⟩ : ∃ W, w.alloc (.cells #[.int .i64 1, .string ⟨([] : List UInt8).toArray⟩, .int .i64 x.num, .slice ka n kc, .slice na 0 nc, .int .i64 x.at_] 45) = W := ⟨_, rfl⟩
  have hbk := Blk.made (T := 45) (cs := #[.int .i64 1, .string ⟨([] : List UInt8).toArray⟩, .int .i64 x.num, .slice ka n kc, .slice na 0 nc, .int .i64 x.at_]) w
  rw [hW] at hbk HX
  have HBK := Lib.hid hbk
  have HKT := Lib.hid (hk.bel HX.out)
  have HNT := Lib.hid (hn.below HX.out)
  have HNN := Lib.hid hnn
  have c0 := hbk.c 0 _ rfl
  have c1 := hbk.c 1 _ rfl
  have c2 := hbk.c 2 _ rfl
  have c3 := hbk.c 3 _ rfl
  have c4 := hbk.c 4 _ rfl
  have c5 := hbk.c 5 _ rfl
  clear ho hk hn hK hbk hnn hnl hnm
  go_enter Tryz.func75, Tryz.ntmps75
  go_wp2_with fail
  clear hW
  go_loopw [5, 4] (fun y v wr => ∃ k : Nat, y = .int .i64 (k : Int) ∧ k ≤ n ∧ v = .bool (valF false x.kids k) ∧ W = wr) (fun y _ _ => n - (intOf y).toNat)
  case atStart => exact ⟨0, rfl, Nat.zero_le _, rfl, rfl⟩
  case round =>
   obtain ⟨k, rfl, hk, rfl, rfl⟩ := hrel
   obtain ⟨q, hq⟩ : ∃ q, valF false x.kids k = q := ⟨_, rfl⟩
   by_cases hkn : k < n
   · have hdec : decide ((k : Int) < (n : Int)) = true := by simpa using hkn
     have hkw : IntKind.i64.wrap ((k : Int) + 1) = (k : Int) + 1 := IntWalk.i64_in _ (by omega)
     obtain ⟨gb, off, y, ya, yc, za, zc, rfl, hy, hgb, -, ⟨e0, -, -, -, -, -⟩, -, -⟩ := HKT.out.nth k hkn
     have hst := valF_step false x.kids k y hy
     obtain ⟨Y, hY⟩ : ∃ s, y.kind = s := ⟨_, rfl⟩
     rw [hY] at e0 hst
     rw [hq] at hst ⊢
     have HS := Lib.hid hst
     clear hst hq hy hY
     cases q with
     | false =>
      go_wp2_with fail
      exact ⟨⟨k + 1, by simp, by omega, by rw [HS.out]; simp, by trivial⟩, by simp only [intOf]; omega⟩
     | true =>
      by_cases h10 : Y = 10
      · subst h10
        go_wp2_with fail
        exact ⟨⟨k + 1, by simp, by omega, by rw [HS.out]; simp, by trivial⟩, by simp only [intOf]; omega⟩
      · have b10 : (Y == 10) = false := beq_eq_false_iff_ne.2 h10
        by_cases h11 : Y = 11
        · subst h11
          go_wp2_with fail
          exact ⟨⟨k + 1, by simp, by omega, by rw [HS.out]; simp, by trivial⟩, by simp only [intOf]; omega⟩
        · have b11 : (Y == 11) = false := beq_eq_false_iff_ne.2 h11
          go_wp2_with fail
          exact ⟨⟨k + 1, by simp, by omega, by rw [HS.out]; simp [b10, b11, bne], by trivial⟩, by simp only [intOf]; omega⟩
   · obtain rfl : k = n := by omega
     have hdec : decide ((k : Int) < (k : Int)) = false := by simp
     have HQ := Lib.hid hq
     rw [hq]
     clear hq
     go_wp2_with fail
     go_ret
     exact ⟨by rw [HO.out]; simp, HX.out⟩
set_option maxRecDepth 100000 in
set_option maxHeartbeats 3200000 in
theorem rone_2 (hK : x.kind = 2) (hk : Tree (fun _ => True) w kv x.kids) (hn : Rd (fun _ => True) strV w nv x.names) : Calls Tryz.prog 75 #[ndV x kv nv] w (Back (.bool (oneB x)) w) := by
 obtain ⟨ka, kc, rfl, hkc, hkm⟩ := hk.form
 obtain ⟨na, nc, rfl, hnc, hnm2⟩ := hn.form
 unfold maxLen at hkm hnm2
 have ho := one23 (.inl hK)
 obtain ⟨n, hnn⟩ : ∃ n, x.kids.length = n := ⟨_, rfl⟩
 obtain ⟨nl, hnl⟩ : ∃ n, x.names.length = n := ⟨_, rfl⟩
 unfold ndV
 rw [hK]
 rw [hnn] at hk hkc ⊢
 rw [hnl] at hn hnc ⊢
 try rw [hnn] at ho
 try rw [hnl] at ho
 obtain ⟨z, hz⟩ : ∃ s, x.num = s := ⟨_, rfl⟩
 try rw [hz] at ho
 rw [hz]
 by_cases hz0 : z = 0
 case neg =>
  have bz : (z == 0) = false := beq_eq_false_iff_ne.2 hz0
  have HO : Hid (oneB x = false) := Lib.hid (by rw [ho]; try simp_all)
  clear ho hk hn hK
  go_enter Tryz.func75, Tryz.ntmps75
  go_wp2_with fail
  go_ret
  exact ⟨by rw [HO.out]; first | done | rfl | simp, alloc_bel _ _⟩
 subst hz0
 by_cases hl0 : nl = 0
 case neg =>
  have bl : decide (0 < nl) = true := decide_eq_true (by omega)
  have bl2 : ((nl : Int) == 0) = false := beq_eq_false_iff_ne.2 (by omega)
  have HO : Hid (oneB x = false) := Lib.hid (by rw [ho]; try simp_all)
  clear ho hk hn hK
  go_enter Tryz.func75, Tryz.ntmps75
  go_wp2_with fail
  go_ret
  exact ⟨by rw [HO.out]; first | done | rfl | simp, alloc_bel _ _⟩
 subst hl0
 have HO : Hid (oneB x = ((n : Int) == 0)) := Lib.hid (by rw [ho]; try simp)
 have HX := Lib.hid (alloc_bel w (.cells #[.int .i64 2, .string ⟨x.name.toArray⟩, .int .i64 0, .slice ka n kc, .slice na 0 nc, .int .i64 x.at_] 45))
 obtain ⟨W, hW⟩ : ∃ W, w.alloc (.cells #[.int .i64 2, .string ⟨x.name.toArray⟩, .int .i64 0, .slice ka n kc, .slice na 0 nc, .int .i64 x.at_] 45) = W := ⟨_, rfl⟩
 have hbk := Blk.made (T := 45) (cs := #[.int .i64 2, .string ⟨x.name.toArray⟩, .int .i64 0, .slice ka n kc, .slice na 0 nc, .int .i64 x.at_]) w
 rw [hW] at hbk HX
 have HBK := Lib.hid hbk
 have HKT := Lib.hid (hk.bel HX.out)
 have HNT := Lib.hid (hn.below HX.out)
 have HNN := Lib.hid hnn
 have c0 := hbk.c 0 _ rfl
 have c1 := hbk.c 1 _ rfl
 have c2 := hbk.c 2 _ rfl
 have c3 := hbk.c 3 _ rfl
 have c4 := hbk.c 4 _ rfl
 have c5 := hbk.c 5 _ rfl
 clear ho hk hn hK hbk hnn hnl hz
 go_enter Tryz.func75, Tryz.ntmps75
 go_wp2_with fail
 clear hW
 go_loopw [5, 4] (fun y v wr => ∃ k : Nat, y = .int .i64 (k : Int) ∧ k ≤ n ∧ v = .bool (valF false x.kids k) ∧ W = wr) (fun y _ _ => n - (intOf y).toNat)
 case atStart => exact ⟨0, rfl, Nat.zero_le _, rfl, rfl⟩
 case round =>
  obtain ⟨k, rfl, hk, rfl, rfl⟩ := hrel
  obtain ⟨q, hq⟩ : ∃ q, valF false x.kids k = q := ⟨_, rfl⟩
  by_cases hkn : k < n
  · have hdec : decide ((k : Int) < (n : Int)) = true := by simpa using hkn
    have hkw : IntKind.i64.wrap ((k : Int) + 1) = (k : Int) + 1 := IntWalk.i64_in _ (by omega)
    obtain ⟨gb, off, y, ya, yc, za, zc, rfl, hy, hgb, -, ⟨e0, -, -, -, -, -⟩, -, -⟩ := HKT.out.nth k hkn
    have hst := valF_step false x.kids k y hy
    obtain ⟨Y, hY⟩ : ∃ s, y.kind = s := ⟨_, rfl⟩
    rw [hY] at e0 hst
    rw [hq] at hst ⊢
    have HS := Lib.hid hst
    clear hst hq hy hY
    cases q with
    | false =>
     go_wp2_with fail
     exact ⟨⟨k + 1, by simp, by omega, by rw [HS.out]; simp, by trivial⟩, by simp only [intOf]; omega⟩
    | true =>
     by_cases h10 : Y = 10
     · subst h10
       go_wp2_with fail
       exact ⟨⟨k + 1, by simp, by omega, by rw [HS.out]; simp, by trivial⟩, by simp only [intOf]; omega⟩
     · have b10 : (Y == 10) = false := beq_eq_false_iff_ne.2 h10
       by_cases h11 : Y = 11
       · subst h11
         go_wp2_with fail
         exact ⟨⟨k + 1, by simp, by omega, by rw [HS.out]; simp, by trivial⟩, by simp only [intOf]; omega⟩
       · have b11 : (Y == 11) = false := beq_eq_false_iff_ne.2 h11
         go_wp2_with fail
         exact ⟨⟨k + 1, by simp, by omega, by rw [HS.out]; simp [b10, b11, bne], by trivial⟩, by simp only [intOf]; omega⟩
  · obtain rfl : k = n := by omega
    have hdec : decide ((k : Int) < (k : Int)) = false := by simp
    have HQ := Lib.hid hq
    rw [hq]
    clear hq
    go_wp2_with fail
    go_ret
    exact ⟨by rw [HO.out]; simp, HX.out⟩
set_option maxRecDepth 100000 in
set_option maxHeartbeats 3200000 in
theorem rone_3 (hK : x.kind = 3) (hk : Tree (fun _ => True) w kv x.kids) (hn : Rd (fun _ => True) strV w nv x.names) : Calls Tryz.prog 75 #[ndV x kv nv] w (Back (.bool (oneB x)) w) := by
 obtain ⟨ka, kc, rfl, hkc, hkm⟩ := hk.form
 obtain ⟨na, nc, rfl, hnc, hnm2⟩ := hn.form
 unfold maxLen at hkm hnm2
 have ho := one23 (.inr hK)
 obtain ⟨n, hnn⟩ : ∃ n, x.kids.length = n := ⟨_, rfl⟩
 obtain ⟨nl, hnl⟩ : ∃ n, x.names.length = n := ⟨_, rfl⟩
 unfold ndV
 rw [hK]
 rw [hnn] at hk hkc ⊢
 rw [hnl] at hn hnc ⊢
 try rw [hnn] at ho
 try rw [hnl] at ho
 obtain ⟨z, hz⟩ : ∃ s, x.num = s := ⟨_, rfl⟩
 try rw [hz] at ho
 rw [hz]
 by_cases hz0 : z = 0
 case neg =>
  have bz : (z == 0) = false := beq_eq_false_iff_ne.2 hz0
  have HO : Hid (oneB x = false) := Lib.hid (by rw [ho]; try simp_all)
  clear ho hk hn hK
  go_enter Tryz.func75, Tryz.ntmps75
  go_wp2_with fail
  go_ret
  exact ⟨by rw [HO.out]; first | done | rfl | simp, alloc_bel _ _⟩
 subst hz0
 by_cases hl0 : nl = 0
 case neg =>
  have bl : decide (0 < nl) = true := decide_eq_true (by omega)
  have bl2 : ((nl : Int) == 0) = false := beq_eq_false_iff_ne.2 (by omega)
  have HO : Hid (oneB x = false) := Lib.hid (by rw [ho]; try simp_all)
  clear ho hk hn hK
  go_enter Tryz.func75, Tryz.ntmps75
  go_wp2_with fail
  go_ret
  exact ⟨by rw [HO.out]; first | done | rfl | simp, alloc_bel _ _⟩
 subst hl0
 have HO : Hid (oneB x = ((n : Int) == 0)) := Lib.hid (by rw [ho]; try simp)
 have HX := Lib.hid (alloc_bel w (.cells #[.int .i64 3, .string ⟨x.name.toArray⟩, .int .i64 0, .slice ka n kc, .slice na 0 nc, .int .i64 x.at_] 45))
 obtain ⟨W, hW⟩ : ∃ W, w.alloc (.cells #[.int .i64 3, .string ⟨x.name.toArray⟩, .int .i64 0, .slice ka n kc, .slice na 0 nc, .int .i64 x.at_] 45) = W := ⟨_, rfl⟩
 have hbk := Blk.made (T := 45) (cs := #[.int .i64 3, .string ⟨x.name.toArray⟩, .int .i64 0, .slice ka n kc, .slice na 0 nc, .int .i64 x.at_]) w
 rw [hW] at hbk HX
 have HBK := Lib.hid hbk
 have HKT := Lib.hid (hk.bel HX.out)
 have HNT := Lib.hid (hn.below HX.out)
 have HNN := Lib.hid hnn
 have c0 := hbk.c 0 _ rfl
 have c1 := hbk.c 1 _ rfl
 have c2 := hbk.c 2 _ rfl
 have c3 := hbk.c 3 _ rfl
 have c4 := hbk.c 4 _ rfl
 have c5 := hbk.c 5 _ rfl
 clear ho hk hn hK hbk hnn hnl hz
 go_enter Tryz.func75, Tryz.ntmps75
 go_wp2_with fail
 clear hW
 go_loopw [5, 4] (fun y v wr => ∃ k : Nat, y = .int .i64 (k : Int) ∧ k ≤ n ∧ v = .bool (valF false x.kids k) ∧ W = wr) (fun y _ _ => n - (intOf y).toNat)
 case atStart => exact ⟨0, rfl, Nat.zero_le _, rfl, rfl⟩
 case round =>
  obtain ⟨k, rfl, hk, rfl, rfl⟩ := hrel
  obtain ⟨q, hq⟩ : ∃ q, valF false x.kids k = q := ⟨_, rfl⟩
  by_cases hkn : k < n
  · have hdec : decide ((k : Int) < (n : Int)) = true := by simpa using hkn
    have hkw : IntKind.i64.wrap ((k : Int) + 1) = (k : Int) + 1 := IntWalk.i64_in _ (by omega)
    obtain ⟨gb, off, y, ya, yc, za, zc, rfl, hy, hgb, -, ⟨e0, -, -, -, -, -⟩, -, -⟩ := HKT.out.nth k hkn
    have hst := valF_step false x.kids k y hy
    obtain ⟨Y, hY⟩ : ∃ s, y.kind = s := ⟨_, rfl⟩
    rw [hY] at e0 hst
    rw [hq] at hst ⊢
    have HS := Lib.hid hst
    clear hst hq hy hY
    cases q with
    | false =>
     go_wp2_with fail
     exact ⟨⟨k + 1, by simp, by omega, by rw [HS.out]; simp, by trivial⟩, by simp only [intOf]; omega⟩
    | true =>
     by_cases h10 : Y = 10
     · subst h10
       go_wp2_with fail
       exact ⟨⟨k + 1, by simp, by omega, by rw [HS.out]; simp, by trivial⟩, by simp only [intOf]; omega⟩
     · have b10 : (Y == 10) = false := beq_eq_false_iff_ne.2 h10
       by_cases h11 : Y = 11
       · subst h11
         go_wp2_with fail
         exact ⟨⟨k + 1, by simp, by omega, by rw [HS.out]; simp, by trivial⟩, by simp only [intOf]; omega⟩
       · have b11 : (Y == 11) = false := beq_eq_false_iff_ne.2 h11
         go_wp2_with fail
         exact ⟨⟨k + 1, by simp, by omega, by rw [HS.out]; simp [b10, b11, bne], by trivial⟩, by simp only [intOf]; omega⟩
  · obtain rfl : k = n := by omega
    have hdec : decide ((k : Int) < (k : Int)) = false := by simp
    have HQ := Lib.hid hq
    rw [hq]
    clear hq
    go_wp2_with fail
    go_ret
    exact ⟨by rw [HO.out]; simp, HX.out⟩
set_option maxRecDepth 100000 in
set_option maxHeartbeats 3200000 in
theorem rone_5 (hK : x.kind = 5) (hk : Tree (fun _ => True) w kv x.kids) (hn : Rd (fun _ => True) strV w nv x.names) : Calls Tryz.prog 75 #[ndV x kv nv] w (Back (.bool (oneB x)) w) := by
 obtain ⟨ka, kc, rfl, hkc, hkm⟩ := hk.form
 obtain ⟨na, nc, rfl, hnc, hnm2⟩ := hn.form
 unfold maxLen at hkm hnm2
 have ho := one5 hK
 obtain ⟨n, hnn⟩ : ∃ n, x.kids.length = n := ⟨_, rfl⟩
 obtain ⟨nl, hnl⟩ : ∃ n, x.names.length = n := ⟨_, rfl⟩
 unfold ndV
 rw [hK]
 rw [hnn] at hk hkc ⊢
 rw [hnl] at hn hnc ⊢
 try rw [hnn] at ho
 try rw [hnl] at ho
 obtain ⟨z, hz⟩ : ∃ s, x.num = s := ⟨_, rfl⟩
 try rw [hz] at ho
 rw [hz]
 by_cases hz0 : z = 0
 case neg =>
  have bz : (z == 0) = false := beq_eq_false_iff_ne.2 hz0
  have HO : Hid (oneB x = false) := Lib.hid (by rw [ho]; try simp_all)
  clear ho hk hn hK
  go_enter Tryz.func75, Tryz.ntmps75
  go_wp2_with fail
  go_ret
  exact ⟨by rw [HO.out]; first | done | rfl | simp, alloc_bel _ _⟩
 subst hz0
 by_cases hl0 : nl = 0
 case neg =>
  have bl : decide (0 < nl) = true := decide_eq_true (by omega)
  have bl2 : ((nl : Int) == 0) = false := beq_eq_false_iff_ne.2 (by omega)
  have HO : Hid (oneB x = false) := Lib.hid (by rw [ho]; try simp_all)
  clear ho hk hn hK
  go_enter Tryz.func75, Tryz.ntmps75
  go_wp2_with fail
  go_ret
  exact ⟨by rw [HO.out]; first | done | rfl | simp, alloc_bel _ _⟩
 subst hl0
 have HO : Hid (oneB x = ((n : Int) == 0 && isName x.name)) := Lib.hid (by rw [ho]; try simp)
 have HX := Lib.hid (alloc_bel w (.cells #[.int .i64 5, .string ⟨x.name.toArray⟩, .int .i64 0, .slice ka n kc, .slice na 0 nc, .int .i64 x.at_] 45))
 obtain ⟨W, hW⟩ : ∃ W, w.alloc (.cells #[.int .i64 5, .string ⟨x.name.toArray⟩, .int .i64 0, .slice ka n kc, .slice na 0 nc, .int .i64 x.at_] 45) = W := ⟨_, rfl⟩
 have hbk := Blk.made (T := 45) (cs := #[.int .i64 5, .string ⟨x.name.toArray⟩, .int .i64 0, .slice ka n kc, .slice na 0 nc, .int .i64 x.at_]) w
 rw [hW] at hbk HX
 have HBK := Lib.hid hbk
 have HKT := Lib.hid (hk.bel HX.out)
 have HNT := Lib.hid (hn.below HX.out)
 have HNN := Lib.hid hnn
 have c0 := hbk.c 0 _ rfl
 have c1 := hbk.c 1 _ rfl
 have c2 := hbk.c 2 _ rfl
 have c3 := hbk.c 3 _ rfl
 have c4 := hbk.c 4 _ rfl
 have c5 := hbk.c 5 _ rfl
 clear ho hk hn hK hbk hnn hnl hz
 go_enter Tryz.func75, Tryz.ntmps75
 go_wp2_with fail
 clear hW
 go_loopw [5, 4] (fun y v wr => ∃ k : Nat, y = .int .i64 (k : Int) ∧ k ≤ n ∧ v = .bool (valF false x.kids k) ∧ W = wr) (fun y _ _ => n - (intOf y).toNat)
 case atStart => exact ⟨0, rfl, Nat.zero_le _, rfl, rfl⟩
 case round =>
  obtain ⟨k, rfl, hk, rfl, rfl⟩ := hrel
  obtain ⟨q, hq⟩ : ∃ q, valF false x.kids k = q := ⟨_, rfl⟩
  by_cases hkn : k < n
  · have hdec : decide ((k : Int) < (n : Int)) = true := by simpa using hkn
    have hkw : IntKind.i64.wrap ((k : Int) + 1) = (k : Int) + 1 := IntWalk.i64_in _ (by omega)
    obtain ⟨gb, off, y, ya, yc, za, zc, rfl, hy, hgb, -, ⟨e0, -, -, -, -, -⟩, -, -⟩ := HKT.out.nth k hkn
    have hst := valF_step false x.kids k y hy
    obtain ⟨Y, hY⟩ : ∃ s, y.kind = s := ⟨_, rfl⟩
    rw [hY] at e0 hst
    rw [hq] at hst ⊢
    have HS := Lib.hid hst
    clear hst hq hy hY
    cases q with
    | false =>
     go_wp2_with fail
     exact ⟨⟨k + 1, by simp, by omega, by rw [HS.out]; simp, by trivial⟩, by simp only [intOf]; omega⟩
    | true =>
     by_cases h10 : Y = 10
     · subst h10
       go_wp2_with fail
       exact ⟨⟨k + 1, by simp, by omega, by rw [HS.out]; simp, by trivial⟩, by simp only [intOf]; omega⟩
     · have b10 : (Y == 10) = false := beq_eq_false_iff_ne.2 h10
       by_cases h11 : Y = 11
       · subst h11
         go_wp2_with fail
         exact ⟨⟨k + 1, by simp, by omega, by rw [HS.out]; simp, by trivial⟩, by simp only [intOf]; omega⟩
       · have b11 : (Y == 11) = false := beq_eq_false_iff_ne.2 h11
         go_wp2_with fail
         exact ⟨⟨k + 1, by simp, by omega, by rw [HS.out]; simp [b10, b11, bne], by trivial⟩, by simp only [intOf]; omega⟩
  · obtain rfl : k = n := by omega
    have hdec : decide ((k : Int) < (k : Int)) = false := by simp
    have HQ := Lib.hid hq
    rw [hq]
    clear hq
    by_cases hk0 : k = 0
    · have bk : ((k : Int) == 0) = true := beq_iff_eq.2 (by omega)
      have HN := fun w' => rname_any x.name w'
      unfold strV at HN
      replace HN := Lib.hid HN
      clear hk0
      go_wp2_with fail
      refine (HN.out _).mono ?_; rintro e w1 ⟨rfl, hw1⟩; obtain rfl := hw1.symm
      go_wp2_with fail
      go_ret
      exact ⟨by rw [HO.out, bk]; simp, HX.out⟩
    · have bk : ((k : Int) == 0) = false := beq_eq_false_iff_ne.2 (by omega)
      go_wp2_with fail
      go_ret
      exact ⟨by rw [HO.out, bk]; simp, HX.out⟩
set_option maxRecDepth 100000 in
set_option maxHeartbeats 3200000 in
theorem rone_6 (hK : x.kind = 6) (hk : Tree (fun _ => True) w kv x.kids) (hn : Rd (fun _ => True) strV w nv x.names) : Calls Tryz.prog 75 #[ndV x kv nv] w (Back (.bool (oneB x)) w) := by
 obtain ⟨ka, kc, rfl, hkc, hkm⟩ := hk.form
 obtain ⟨na, nc, rfl, hnc, hnm2⟩ := hn.form
 unfold maxLen at hkm hnm2
 have ho := one6 hK
 obtain ⟨n, hnn⟩ : ∃ n, x.kids.length = n := ⟨_, rfl⟩
 obtain ⟨nl, hnl⟩ : ∃ n, x.names.length = n := ⟨_, rfl⟩
 unfold ndV
 rw [hK]
 rw [hnn] at hk hkc ⊢
 rw [hnl] at hn hnc ⊢
 try rw [hnn] at ho
 try rw [hnl] at ho
 obtain ⟨z, hz⟩ : ∃ s, x.num = s := ⟨_, rfl⟩
 try rw [hz] at ho
 rw [hz]
 by_cases hz0 : z = 0
 case neg =>
  have bz : (z == 0) = false := beq_eq_false_iff_ne.2 hz0
  have HO : Hid (oneB x = false) := Lib.hid (by rw [ho]; try simp_all)
  clear ho hk hn hK
  go_enter Tryz.func75, Tryz.ntmps75
  go_wp2_with fail
  go_ret
  exact ⟨by rw [HO.out]; first | done | rfl | simp, alloc_bel _ _⟩
 subst hz0
 by_cases hl0 : nl = 0
 case neg =>
  have bl : decide (0 < nl) = true := decide_eq_true (by omega)
  have bl2 : ((nl : Int) == 0) = false := beq_eq_false_iff_ne.2 (by omega)
  have HO : Hid (oneB x = false) := Lib.hid (by rw [ho]; try simp_all)
  clear ho hk hn hK
  go_enter Tryz.func75, Tryz.ntmps75
  go_wp2_with fail
  go_ret
  exact ⟨by rw [HO.out]; first | done | rfl | simp, alloc_bel _ _⟩
 subst hl0
 have HO : Hid (oneB x = ((n : Int) == 1 && isName x.name && x.kids.all valB)) := Lib.hid (by rw [ho]; try simp)
 have HX := Lib.hid (alloc_bel w (.cells #[.int .i64 6, .string ⟨x.name.toArray⟩, .int .i64 0, .slice ka n kc, .slice na 0 nc, .int .i64 x.at_] 45))
 obtain ⟨W, hW⟩ : ∃ W, w.alloc (.cells #[.int .i64 6, .string ⟨x.name.toArray⟩, .int .i64 0, .slice ka n kc, .slice na 0 nc, .int .i64 x.at_] 45) = W := ⟨_, rfl⟩
 have hbk := Blk.made (T := 45) (cs := #[.int .i64 6, .string ⟨x.name.toArray⟩, .int .i64 0, .slice ka n kc, .slice na 0 nc, .int .i64 x.at_]) w
 rw [hW] at hbk HX
 have HBK := Lib.hid hbk
 have HKT := Lib.hid (hk.bel HX.out)
 have HNT := Lib.hid (hn.below HX.out)
 have HNN := Lib.hid hnn
 have c0 := hbk.c 0 _ rfl
 have c1 := hbk.c 1 _ rfl
 have c2 := hbk.c 2 _ rfl
 have c3 := hbk.c 3 _ rfl
 have c4 := hbk.c 4 _ rfl
 have c5 := hbk.c 5 _ rfl
 clear ho hk hn hK hbk hnn hnl hz
 go_enter Tryz.func75, Tryz.ntmps75
 go_wp2_with fail
 clear hW
 go_loopw [5, 4] (fun y v wr => ∃ k : Nat, y = .int .i64 (k : Int) ∧ k ≤ n ∧ v = .bool (valF false x.kids k) ∧ W = wr) (fun y _ _ => n - (intOf y).toNat)
 case atStart => exact ⟨0, rfl, Nat.zero_le _, rfl, rfl⟩
 case round =>
  obtain ⟨k, rfl, hk, rfl, rfl⟩ := hrel
  obtain ⟨q, hq⟩ : ∃ q, valF false x.kids k = q := ⟨_, rfl⟩
  by_cases hkn : k < n
  · have hdec : decide ((k : Int) < (n : Int)) = true := by simpa using hkn
    have hkw : IntKind.i64.wrap ((k : Int) + 1) = (k : Int) + 1 := IntWalk.i64_in _ (by omega)
    obtain ⟨gb, off, y, ya, yc, za, zc, rfl, hy, hgb, -, ⟨e0, -, -, -, -, -⟩, -, -⟩ := HKT.out.nth k hkn
    have hst := valF_step false x.kids k y hy
    obtain ⟨Y, hY⟩ : ∃ s, y.kind = s := ⟨_, rfl⟩
    rw [hY] at e0 hst
    rw [hq] at hst ⊢
    have HS := Lib.hid hst
    clear hst hq hy hY
    cases q with
    | false =>
     go_wp2_with fail
     exact ⟨⟨k + 1, by simp, by omega, by rw [HS.out]; simp, by trivial⟩, by simp only [intOf]; omega⟩
    | true =>
     by_cases h10 : Y = 10
     · subst h10
       go_wp2_with fail
       exact ⟨⟨k + 1, by simp, by omega, by rw [HS.out]; simp, by trivial⟩, by simp only [intOf]; omega⟩
     · have b10 : (Y == 10) = false := beq_eq_false_iff_ne.2 h10
       by_cases h11 : Y = 11
       · subst h11
         go_wp2_with fail
         exact ⟨⟨k + 1, by simp, by omega, by rw [HS.out]; simp, by trivial⟩, by simp only [intOf]; omega⟩
       · have b11 : (Y == 11) = false := beq_eq_false_iff_ne.2 h11
         go_wp2_with fail
         exact ⟨⟨k + 1, by simp, by omega, by rw [HS.out]; simp [b10, b11, bne], by trivial⟩, by simp only [intOf]; omega⟩
  · obtain rfl : k = n := by omega
    have hdec : decide ((k : Int) < (k : Int)) = false := by simp
    have HQ := Lib.hid hq
    rw [hq]
    clear hq
    by_cases hk0 : k = 1
    · have bk : ((k : Int) == 1) = true := beq_iff_eq.2 (by omega)
      have HN := fun w' => rname_any x.name w'
      have HV : Hid (x.kids.all valB = q) := Lib.hid (by rw [← HQ.out, ← HNN.out, valF_end])
      unfold strV at HN
      obtain ⟨r, hr⟩ : ∃ r, isName x.name = r := ⟨_, rfl⟩
      rw [hr] at HN
      replace HN := Lib.hid HN
      have HR := Lib.hid hr
      clear hk0 hr
      go_wp2_with fail
      refine (HN.out _).mono ?_; rintro e w1 ⟨rfl, hw1⟩; obtain rfl := hw1.symm
      cases r with
      | false =>
       go_wp2_with fail
       go_ret
       exact ⟨by rw [HO.out, bk, HR.out]; simp, HX.out⟩
      | true =>
       go_wp2_with fail
       go_ret
       exact ⟨by rw [HO.out, bk, HR.out, HV.out]; simp, HX.out⟩
    · have bk : ((k : Int) == 1) = false := beq_eq_false_iff_ne.2 (by omega)
      go_wp2_with fail
      go_ret
      exact ⟨by rw [HO.out, bk]; simp, HX.out⟩
set_option maxRecDepth 100000 in
set_option maxHeartbeats 3200000 in
theorem rone_10 (hK : x.kind = 10) (hk : Tree (fun _ => True) w kv x.kids) (hn : Rd (fun _ => True) strV w nv x.names) : Calls Tryz.prog 75 #[ndV x kv nv] w (Back (.bool (oneB x)) w) := by
 obtain ⟨ka, kc, rfl, hkc, hkm⟩ := hk.form
 obtain ⟨na, nc, rfl, hnc, hnm2⟩ := hn.form
 unfold maxLen at hkm hnm2
 have ho := one10 hK
 obtain ⟨n, hnn⟩ : ∃ n, x.kids.length = n := ⟨_, rfl⟩
 obtain ⟨nl, hnl⟩ : ∃ n, x.names.length = n := ⟨_, rfl⟩
 unfold ndV
 rw [hK]
 rw [hnn] at hk hkc ⊢
 rw [hnl] at hn hnc ⊢
 try rw [hnn] at ho
 try rw [hnl] at ho
 obtain ⟨nm, hnm⟩ : ∃ s, x.name = s := ⟨_, rfl⟩
 try rw [hnm] at ho
 rw [hnm]
 cases nm with
 | cons c t =>
  have HO : Hid (oneB x = false) := Lib.hid (by rw [ho]; try simp_all)
  clear ho hk hn hK
  go_enter Tryz.func75, Tryz.ntmps75
  go_wp2_with fail
  go_ret
  exact ⟨by rw [HO.out]; first | done | rfl | simp, alloc_bel _ _⟩
 | nil =>
  obtain ⟨z, hz⟩ : ∃ s, x.num = s := ⟨_, rfl⟩
  try rw [hz] at ho
  rw [hz]
  by_cases hz0 : z = 0
  case neg =>
   have bz : (z == 0) = false := beq_eq_false_iff_ne.2 hz0
   have HO : Hid (oneB x = false) := Lib.hid (by rw [ho]; try simp_all)
   clear ho hk hn hK
   go_enter Tryz.func75, Tryz.ntmps75
   go_wp2_with fail
   go_ret
   exact ⟨by rw [HO.out]; first | done | rfl | simp, alloc_bel _ _⟩
  subst hz0
  by_cases hl0 : nl = 0
  case neg =>
   have bl : decide (0 < nl) = true := decide_eq_true (by omega)
   have bl2 : ((nl : Int) == 0) = false := beq_eq_false_iff_ne.2 (by omega)
   have HO : Hid (oneB x = false) := Lib.hid (by rw [ho]; try simp_all)
   clear ho hk hn hK
   go_enter Tryz.func75, Tryz.ntmps75
   go_wp2_with fail
   go_ret
   exact ⟨by rw [HO.out]; first | done | rfl | simp, alloc_bel _ _⟩
  subst hl0
  have HO : Hid (oneB x = ((n : Int) == 1 && x.kids.all valB)) := Lib.hid (by rw [ho]; try simp)
  have HX := Lib.hid (alloc_bel w (.cells #[.int .i64 10, .string ⟨([] : List UInt8).toArray⟩, .int .i64 0, .slice ka n kc, .slice na 0 nc, .int .i64 x.at_] 45))
  obtain ⟨W, hW⟩ : ∃ W, w.alloc (.cells #[.int .i64 10, .string ⟨([] : List UInt8).toArray⟩, .int .i64 0, .slice ka n kc, .slice na 0 nc, .int .i64 x.at_] 45) = W := ⟨_, rfl⟩
  have hbk := Blk.made (T := 45) (cs := #[.int .i64 10, .string ⟨([] : List UInt8).toArray⟩, .int .i64 0, .slice ka n kc, .slice na 0 nc, .int .i64 x.at_]) w
  rw [hW] at hbk HX
  have HBK := Lib.hid hbk
  have HKT := Lib.hid (hk.bel HX.out)
  have HNT := Lib.hid (hn.below HX.out)
  have HNN := Lib.hid hnn
  have c0 := hbk.c 0 _ rfl
  have c1 := hbk.c 1 _ rfl
  have c2 := hbk.c 2 _ rfl
  have c3 := hbk.c 3 _ rfl
  have c4 := hbk.c 4 _ rfl
  have c5 := hbk.c 5 _ rfl
  clear ho hk hn hK hbk hnn hnl hnm hz
  go_enter Tryz.func75, Tryz.ntmps75
  go_wp2_with fail
  clear hW
  go_loopw [5, 4] (fun y v wr => ∃ k : Nat, y = .int .i64 (k : Int) ∧ k ≤ n ∧ v = .bool (valF false x.kids k) ∧ W = wr) (fun y _ _ => n - (intOf y).toNat)
  case atStart => exact ⟨0, rfl, Nat.zero_le _, rfl, rfl⟩
  case round =>
   obtain ⟨k, rfl, hk, rfl, rfl⟩ := hrel
   obtain ⟨q, hq⟩ : ∃ q, valF false x.kids k = q := ⟨_, rfl⟩
   by_cases hkn : k < n
   · have hdec : decide ((k : Int) < (n : Int)) = true := by simpa using hkn
     have hkw : IntKind.i64.wrap ((k : Int) + 1) = (k : Int) + 1 := IntWalk.i64_in _ (by omega)
     obtain ⟨gb, off, y, ya, yc, za, zc, rfl, hy, hgb, -, ⟨e0, -, -, -, -, -⟩, -, -⟩ := HKT.out.nth k hkn
     have hst := valF_step false x.kids k y hy
     obtain ⟨Y, hY⟩ : ∃ s, y.kind = s := ⟨_, rfl⟩
     rw [hY] at e0 hst
     rw [hq] at hst ⊢
     have HS := Lib.hid hst
     clear hst hq hy hY
     cases q with
     | false =>
      go_wp2_with fail
      exact ⟨⟨k + 1, by simp, by omega, by rw [HS.out]; simp, by trivial⟩, by simp only [intOf]; omega⟩
     | true =>
      by_cases h10 : Y = 10
      · subst h10
        go_wp2_with fail
        exact ⟨⟨k + 1, by simp, by omega, by rw [HS.out]; simp, by trivial⟩, by simp only [intOf]; omega⟩
      · have b10 : (Y == 10) = false := beq_eq_false_iff_ne.2 h10
        by_cases h11 : Y = 11
        · subst h11
          go_wp2_with fail
          exact ⟨⟨k + 1, by simp, by omega, by rw [HS.out]; simp, by trivial⟩, by simp only [intOf]; omega⟩
        · have b11 : (Y == 11) = false := beq_eq_false_iff_ne.2 h11
          go_wp2_with fail
          exact ⟨⟨k + 1, by simp, by omega, by rw [HS.out]; simp [b10, b11, bne], by trivial⟩, by simp only [intOf]; omega⟩
   · obtain rfl : k = n := by omega
     have hdec : decide ((k : Int) < (k : Int)) = false := by simp
     have HQ := Lib.hid hq
     rw [hq]
     clear hq
     have HV : Hid (x.kids.all valB = q) := Lib.hid (by rw [← HQ.out, ← HNN.out, valF_end])
     by_cases hk0 : k = 1
     · have bk : ((k : Int) == 1) = true := beq_iff_eq.2 (by omega)
       clear hk0
       go_wp2_with fail
       go_ret
       exact ⟨by rw [HO.out, bk, HV.out]; simp, HX.out⟩
     · have bk : ((k : Int) == 1) = false := beq_eq_false_iff_ne.2 (by omega)
       go_wp2_with fail
       go_ret
       exact ⟨by rw [HO.out, bk]; simp, HX.out⟩
set_option maxRecDepth 100000 in
set_option maxHeartbeats 3200000 in
theorem rone_11 (hK : x.kind = 11) (hk : Tree (fun _ => True) w kv x.kids) (hn : Rd (fun _ => True) strV w nv x.names) : Calls Tryz.prog 75 #[ndV x kv nv] w (Back (.bool (oneB x)) w) := by
 obtain ⟨ka, kc, rfl, hkc, hkm⟩ := hk.form
 obtain ⟨na, nc, rfl, hnc, hnm2⟩ := hn.form
 unfold maxLen at hkm hnm2
 have ho := one11 hK
 obtain ⟨n, hnn⟩ : ∃ n, x.kids.length = n := ⟨_, rfl⟩
 obtain ⟨nl, hnl⟩ : ∃ n, x.names.length = n := ⟨_, rfl⟩
 unfold ndV
 rw [hK]
 rw [hnn] at hk hkc ⊢
 rw [hnl] at hn hnc ⊢
 try rw [hnn] at ho
 try rw [hnl] at ho
 obtain ⟨nm, hnm⟩ : ∃ s, x.name = s := ⟨_, rfl⟩
 try rw [hnm] at ho
 rw [hnm]
 cases nm with
 | cons c t =>
  have HO : Hid (oneB x = false) := Lib.hid (by rw [ho]; try simp_all)
  clear ho hk hn hK
  go_enter Tryz.func75, Tryz.ntmps75
  go_wp2_with fail
  go_ret
  exact ⟨by rw [HO.out]; first | done | rfl | simp, alloc_bel _ _⟩
 | nil =>
  obtain ⟨z, hz⟩ : ∃ s, x.num = s := ⟨_, rfl⟩
  try rw [hz] at ho
  rw [hz]
  by_cases hz0 : z = 0
  case neg =>
   have bz : (z == 0) = false := beq_eq_false_iff_ne.2 hz0
   have HO : Hid (oneB x = false) := Lib.hid (by rw [ho]; try simp_all)
   clear ho hk hn hK
   go_enter Tryz.func75, Tryz.ntmps75
   go_wp2_with fail
   go_ret
   exact ⟨by rw [HO.out]; first | done | rfl | simp, alloc_bel _ _⟩
  subst hz0
  by_cases hl0 : nl = 0
  case neg =>
   have bl : decide (0 < nl) = true := decide_eq_true (by omega)
   have bl2 : ((nl : Int) == 0) = false := beq_eq_false_iff_ne.2 (by omega)
   have HO : Hid (oneB x = false) := Lib.hid (by rw [ho]; try simp_all)
   clear ho hk hn hK
   go_enter Tryz.func75, Tryz.ntmps75
   go_wp2_with fail
   go_ret
   exact ⟨by rw [HO.out]; first | done | rfl | simp, alloc_bel _ _⟩
  subst hl0
  have HO : Hid (oneB x = ((n : Int) == 0)) := Lib.hid (by rw [ho]; try simp)
  have HX := Lib.hid (alloc_bel w (.cells #[.int .i64 11, .string ⟨([] : List UInt8).toArray⟩, .int .i64 0, .slice ka n kc, .slice na 0 nc, .int .i64 x.at_] 45))
  obtain ⟨W, hW⟩ : ∃ W, w.alloc (.cells #[.int .i64 11, .string ⟨([] : List UInt8).toArray⟩, .int .i64 0, .slice ka n kc, .slice na 0 nc, .int .i64 x.at_] 45) = W := ⟨_, rfl⟩
  have hbk := Blk.made (T := 45) (cs := #[.int .i64 11, .string ⟨([] : List UInt8).toArray⟩, .int .i64 0, .slice ka n kc, .slice na 0 nc, .int .i64 x.at_]) w
  rw [hW] at hbk HX
  have HBK := Lib.hid hbk
  have HKT := Lib.hid (hk.bel HX.out)
  have HNT := Lib.hid (hn.below HX.out)
  have HNN := Lib.hid hnn
  have c0 := hbk.c 0 _ rfl
  have c1 := hbk.c 1 _ rfl
  have c2 := hbk.c 2 _ rfl
  have c3 := hbk.c 3 _ rfl
  have c4 := hbk.c 4 _ rfl
  have c5 := hbk.c 5 _ rfl
  clear ho hk hn hK hbk hnn hnl hnm hz
  go_enter Tryz.func75, Tryz.ntmps75
  go_wp2_with fail
  clear hW
  go_loopw [5, 4] (fun y v wr => ∃ k : Nat, y = .int .i64 (k : Int) ∧ k ≤ n ∧ v = .bool (valF false x.kids k) ∧ W = wr) (fun y _ _ => n - (intOf y).toNat)
  case atStart => exact ⟨0, rfl, Nat.zero_le _, rfl, rfl⟩
  case round =>
   obtain ⟨k, rfl, hk, rfl, rfl⟩ := hrel
   obtain ⟨q, hq⟩ : ∃ q, valF false x.kids k = q := ⟨_, rfl⟩
   by_cases hkn : k < n
   · have hdec : decide ((k : Int) < (n : Int)) = true := by simpa using hkn
     have hkw : IntKind.i64.wrap ((k : Int) + 1) = (k : Int) + 1 := IntWalk.i64_in _ (by omega)
     obtain ⟨gb, off, y, ya, yc, za, zc, rfl, hy, hgb, -, ⟨e0, -, -, -, -, -⟩, -, -⟩ := HKT.out.nth k hkn
     have hst := valF_step false x.kids k y hy
     obtain ⟨Y, hY⟩ : ∃ s, y.kind = s := ⟨_, rfl⟩
     rw [hY] at e0 hst
     rw [hq] at hst ⊢
     have HS := Lib.hid hst
     clear hst hq hy hY
     cases q with
     | false =>
      go_wp2_with fail
      exact ⟨⟨k + 1, by simp, by omega, by rw [HS.out]; simp, by trivial⟩, by simp only [intOf]; omega⟩
     | true =>
      by_cases h10 : Y = 10
      · subst h10
        go_wp2_with fail
        exact ⟨⟨k + 1, by simp, by omega, by rw [HS.out]; simp, by trivial⟩, by simp only [intOf]; omega⟩
      · have b10 : (Y == 10) = false := beq_eq_false_iff_ne.2 h10
        by_cases h11 : Y = 11
        · subst h11
          go_wp2_with fail
          exact ⟨⟨k + 1, by simp, by omega, by rw [HS.out]; simp, by trivial⟩, by simp only [intOf]; omega⟩
        · have b11 : (Y == 11) = false := beq_eq_false_iff_ne.2 h11
          go_wp2_with fail
          exact ⟨⟨k + 1, by simp, by omega, by rw [HS.out]; simp [b10, b11, bne], by trivial⟩, by simp only [intOf]; omega⟩
   · obtain rfl : k = n := by omega
     have hdec : decide ((k : Int) < (k : Int)) = false := by simp
     have HQ := Lib.hid hq
     rw [hq]
     clear hq
     go_wp2_with fail
     go_ret
     exact ⟨by rw [HO.out]; simp, HX.out⟩
end
end Tr
end Go.Proofs.YtfbhokdcnjekiaaGreatDoor
