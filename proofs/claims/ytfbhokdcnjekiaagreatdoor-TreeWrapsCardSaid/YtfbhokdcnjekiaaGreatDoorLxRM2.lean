/- The reference's lexer, Next: its end (wip/gen/gen_r7.py prints this). · The reference's lexer, Next: single bytes (wip/gen/gen_r7.py prints this). · The reference's lexer, Next: texts, symbols (wip/gen/gen_r7.py prints this). · The reference's lexer, Next: digits (wip/gen/gen_r7.py prints this). · The reference's lexer, Next: marks, operators (wip/gen/gen_r7.py prints this). · The reference's lexer: Next, from place 0, whatever stands there. · The reference's lexer: All. · The reference's lexer: Arity. -/
import Derived.Test.YtfbhokdcnjekiaaGreatDoorLxRM1
import Derived.Test.YtfbhokdcnjekiaaGreatDoorLxE3
set_option linter.unusedVariables false
namespace Go.Proofs.YtfbhokdcnjekiaaGreatDoor
open Go.RowKit
namespace Lx
variable {s : ByteArray} {p : Nat} {w : World}
set_option maxRecDepth 100000 in
set_option maxHeartbeats 3200000 in
theorem rnext_note (hs : s.size ≤ 140737488355327) {a : Nat} (ha : a ≤ s.size) (hk : sk none a (s.data.toList.drop a) = .error p) :
  Calls Tryz.prog 153 #[.string s, .int .i64 (a : Int)] w (Nexted 0 (.error (p, 4)) w) := by
 have HSK := fun v : World => rskip_any (s := s) (at_ := a) (w := v) (by omega) ha
 rw [hk] at HSK
 have HSK := Lib.hid HSK
 have hsz0 : ¬ (s.size : Int) < (a : Int) ∧ ¬ (a : Int) < 0 := by omega
 clear hk
 go_enter Tryz.func153, Tryz.ntmps153
 go_wp2_with fail
 refine (HSK.out _).mono ?_; rintro e w' ⟨rfl, rfl⟩
 go_wp2_with fail
 refine bodyPost_ret (v := .tuple #[.agg #[.int .i64 0, .string ⟨#[]⟩, .int .i64 0, .int .i64 0], .int .i64 ((p : Int)), .int .i64 4]) (by simp [results, Tryz.results153, go_sem]) rfl ?_
 exact nexted_err ((Below.refl _ _).alloc (Nat.le_refl _) _) (by simp [tokV]) (by omega)
set_option maxRecDepth 100000 in
set_option maxHeartbeats 3200000 in
theorem rnext_end (hs : s.size ≤ 140737488355327) {a : Nat} (ha : a ≤ s.size) (hk : sk none a (s.data.toList.drop a) = .ok p) (hp2 : p ≤ s.size) (hge : p = s.size) :
  Calls Tryz.prog 153 #[.string s, .int .i64 (a : Int)] w (Nexted p (tokR (s.data.toList.drop p)) w) := by
 have hE : tokR (s.data.toList.drop p) = .ok (⟨0, [], 0, 0⟩, 0) := by rw [List.drop_eq_nil_of_le (show s.data.toList.length ≤ p from Nat.le_of_eq hge.symm)]; rfl
 rw [hE]
 have hpe : ((p : Int) == (s.size : Int)) = true := by rw [beq_iff_eq]; omega
 clear hE hge
 have HSK := fun v : World => rskip_any (s := s) (at_ := a) (w := v) (by omega) ha
 rw [hk] at HSK
 have HSK := Lib.hid HSK
 have hsz0 : ¬ (s.size : Int) < (a : Int) ∧ ¬ (a : Int) < 0 := by omega
 clear hk
 go_enter Tryz.func153, Tryz.ntmps153
 go_wp2_with fail
 refine (HSK.out _).mono ?_; rintro e w' ⟨rfl, rfl⟩
 go_wp2_with fail
 refine bodyPost_ret (v := .tuple #[.agg #[.int .i64 0, .string ⟨#[]⟩, .int .i64 0, .int .i64 (p : Int)], .int .i64 ((p : Int)), .int .i64 0]) (by simp [results, Tryz.results153, go_sem]) rfl ?_
 exact nexted_ok (((Below.refl _ _).alloc (Nat.le_refl _) _).alloc (by simp) _) (by simp [tokV]) (by omega)
set_option maxRecDepth 100000 in
set_option maxHeartbeats 3200000 in
theorem rnext_keyword (hs : s.size ≤ 140737488355327) {a : Nat} (ha : a ≤ s.size) (hk : sk none a (s.data.toList.drop a) = .ok p) (hp2 : p ≤ s.size) (hlt : p < s.size) (hl : letter s[p] = true) (hk1 : kw1 (s.data.toList.drop p) ≠ 0) :
  Calls Tryz.prog 153 #[.string s, .int .i64 (a : Int)] w (Nexted p (tokR (s.data.toList.drop p)) w) := by
 have hhd : hd (s.data.toList.drop p) 0 = s[p] := hd_drop s p 0 hlt
 have hE0 := tok_letter' (r := s.data.toList.drop p) (by rw [hhd]; exact hl)
 have hnp : nameL (s.data.toList.drop p) ≠ 0 := by unfold nameL; rw [hhd, if_pos hl, Nat.ne_zero_iff_zero_lt]; exact tw_pos hhd hl
 have hHK := fun v : World => rkeyword_any (s := s) (at_ := p) (w := v) (by omega) hp2
 have hc : colonB ((s.data.toList.drop p).drop (nameL (s.data.toList.drop p))) = true := by
  unfold kw1 at hk1
  rw [if_neg hnp] at hk1
  cases h : colonB ((s.data.toList.drop p).drop (nameL (s.data.toList.drop p)))
  · rw [h] at hk1; exact absurd rfl hk1
  · rfl
 have hw : wordL (s.data.toList.drop p) = kw1 (s.data.toList.drop p) := by unfold wordL kw1; rw [if_neg hnp]; rw [hc]; rfl
 have hle := kw1_le (s.data.toList.drop p)
 rw [hc, hw] at hE0
 simp only [if_true] at hE0
 rw [dlen] at hle
 obtain ⟨q, hq⟩ : ∃ q, kw1 (s.data.toList.drop p) = q := ⟨_, rfl⟩
 rw [hq] at hE0 hHK hle hk1
 have hpq : p + q ≤ s.size := by omega
 obtain ⟨Z, hZ⟩ : ∃ Z, p + q = Z := ⟨_, rfl⟩
 rw [hZ] at hHK
 have hzb : ((Z : Int) == (p : Int)) = false := by rw [beq_eq_false_iff_ne]; omega
 clear hc hw hq
 have HK := Lib.hid hHK
 have hxl := ext_size s p Z (by omega) (by omega)
 have hxw := ext_word s p q hpq
 rw [hZ] at hxw
 obtain ⟨x, hx⟩ : ∃ x, s.extract p Z = x := ⟨_, rfl⟩
 rw [hx] at hxl hxw
 have HXW := Lib.hid hxw
 have hz1 : (p : Int) ≤ (Z : Int) := by omega
 have hz2 : (Z : Int) ≤ (s.size : Int) := by omega
 have hz3 : p ≤ Z := by omega
 have hz4 : Z ≤ s.size := by omega
 have hpi : (p : Int) < (s.size : Int) := by omega
 have hpe : ((p : Int) == (s.size : Int)) = false := by rw [beq_eq_false_iff_ne]; omega
 obtain ⟨c, hc⟩ : ∃ c, s[p] = c := ⟨_, rfl⟩
 rw [hc] at hl
 clear hHK hxw hhd hk1
 by_cases h64 : 64 < q
 · have h64i : (64 : Int) < (x.size : Int) := by omega
   rw [if_pos h64] at hE0
   rw [hE0]
   clear hE0 h64 hxl
   have HSK := fun v : World => rskip_any (s := s) (at_ := a) (w := v) (by omega) ha
   rw [hk] at HSK
   have HSK := Lib.hid HSK
   have hsz0 : ¬ (s.size : Int) < (a : Int) ∧ ¬ (a : Int) < 0 := by omega
   clear hk
   go_enter Tryz.func153, Tryz.ntmps153
   go_wp2_with fail
   refine (HSK.out _).mono ?_; rintro e w' ⟨rfl, rfl⟩
   go_wp2_with fail
   refine (rletter_any c _).mono ?_; rintro e w' ⟨rfl, rfl⟩
   rw [hl]
   go_wp2_with fail
   refine (HK.out _).mono ?_; rintro e w' ⟨rfl, rfl⟩
   go_wp2_with fail
   refine bodyPost_ret (v := .tuple #[.agg #[.int .i64 0, .string ⟨#[]⟩, .int .i64 0, .int .i64 0], .int .i64 ((p : Int)), .int .i64 2]) (by simp [results, Tryz.results153, go_sem]) rfl ?_
   exact nexted_err (((Below.refl _ _).alloc (Nat.le_refl _) _).alloc (by simp) _) (by simp [tokV]) (by omega)
 · have h64i : ¬ (64 : Int) < (x.size : Int) := by omega
   rw [if_neg h64] at hE0
   rw [hE0]
   clear hE0 h64 hxl
   have HSK := fun v : World => rskip_any (s := s) (at_ := a) (w := v) (by omega) ha
   rw [hk] at HSK
   have HSK := Lib.hid HSK
   have hsz0 : ¬ (s.size : Int) < (a : Int) ∧ ¬ (a : Int) < 0 := by omega
   clear hk
   go_enter Tryz.func153, Tryz.ntmps153
   go_wp2_with fail
   refine (HSK.out _).mono ?_; rintro e w' ⟨rfl, rfl⟩
   go_wp2_with fail
   refine (rletter_any c _).mono ?_; rintro e w' ⟨rfl, rfl⟩
   rw [hl]
   go_wp2_with fail
   refine (HK.out _).mono ?_; rintro e w' ⟨rfl, rfl⟩
   go_wp2_with fail
   refine bodyPost_ret (v := .tuple #[.agg #[.int .i64 2, .string x, .int .i64 0, .int .i64 (p : Int)], .int .i64 ((Z : Int)), .int .i64 0]) (by simp [results, Tryz.results153, go_sem]) rfl ?_
   exact nexted_ok (((Below.refl _ _).alloc (Nat.le_refl _) _).alloc (by simp) _) (by rw [HXW.out]; simp [tokV]) (by omega)
set_option maxRecDepth 100000 in
set_option maxHeartbeats 3200000 in
theorem rnext_name (hs : s.size ≤ 140737488355327) {a : Nat} (ha : a ≤ s.size) (hk : sk none a (s.data.toList.drop a) = .ok p) (hp2 : p ≤ s.size) (hlt : p < s.size) (hl : letter s[p] = true) (hk1 : kw1 (s.data.toList.drop p) = 0) :
  Calls Tryz.prog 153 #[.string s, .int .i64 (a : Int)] w (Nexted p (tokR (s.data.toList.drop p)) w) := by
 have hhd : hd (s.data.toList.drop p) 0 = s[p] := hd_drop s p 0 hlt
 have hE0 := tok_letter' (r := s.data.toList.drop p) (by rw [hhd]; exact hl)
 have hnp : nameL (s.data.toList.drop p) ≠ 0 := by unfold nameL; rw [hhd, if_pos hl, Nat.ne_zero_iff_zero_lt]; exact tw_pos hhd hl
 have hHK := fun v : World => rkeyword_any (s := s) (at_ := p) (w := v) (by omega) hp2
 have hc : colonB ((s.data.toList.drop p).drop (nameL (s.data.toList.drop p))) = false := by
  unfold kw1 at hk1
  rw [if_neg hnp] at hk1
  cases h : colonB ((s.data.toList.drop p).drop (nameL (s.data.toList.drop p)))
  · rfl
  · rw [h] at hk1; simp at hk1
 have hw : wordL (s.data.toList.drop p) = nameL (s.data.toList.drop p) := by unfold wordL; rw [hc]; rfl
 have hle := nameL_le (s.data.toList.drop p)
 rw [hc, hw] at hE0
 simp only [Bool.false_eq_true, if_false] at hE0
 rw [dlen] at hle
 have hHN := fun v : World => rname_any (s := s) (at_ := p) (w := v) (by omega) hp2
 rw [hk1, Nat.add_zero] at hHK
 obtain ⟨q, hq⟩ : ∃ q, nameL (s.data.toList.drop p) = q := ⟨_, rfl⟩
 rw [hq] at hE0 hHN hle hnp
 have hpq : p + q ≤ s.size := by omega
 obtain ⟨Z, hZ⟩ : ∃ Z, p + q = Z := ⟨_, rfl⟩
 rw [hZ] at hHN
 have HN := Lib.hid hHN
 clear hc hw hq hHN
 have HK := Lib.hid hHK
 have hxl := ext_size s p Z (by omega) (by omega)
 have hxw := ext_word s p q hpq
 rw [hZ] at hxw
 obtain ⟨x, hx⟩ : ∃ x, s.extract p Z = x := ⟨_, rfl⟩
 rw [hx] at hxl hxw
 have HXW := Lib.hid hxw
 have hz1 : (p : Int) ≤ (Z : Int) := by omega
 have hz2 : (Z : Int) ≤ (s.size : Int) := by omega
 have hz3 : p ≤ Z := by omega
 have hz4 : Z ≤ s.size := by omega
 have hpi : (p : Int) < (s.size : Int) := by omega
 have hpe : ((p : Int) == (s.size : Int)) = false := by rw [beq_eq_false_iff_ne]; omega
 obtain ⟨c, hc⟩ : ∃ c, s[p] = c := ⟨_, rfl⟩
 rw [hc] at hl
 clear hHK hxw hhd hk1
 by_cases h64 : 64 < q
 · have h64i : (64 : Int) < (x.size : Int) := by omega
   rw [if_pos h64] at hE0
   rw [hE0]
   clear hE0 h64 hxl
   have HSK := fun v : World => rskip_any (s := s) (at_ := a) (w := v) (by omega) ha
   rw [hk] at HSK
   have HSK := Lib.hid HSK
   have hsz0 : ¬ (s.size : Int) < (a : Int) ∧ ¬ (a : Int) < 0 := by omega
   clear hk
   go_enter Tryz.func153, Tryz.ntmps153
   go_wp2_with fail
   refine (HSK.out _).mono ?_; rintro e w' ⟨rfl, rfl⟩
   go_wp2_with fail
   refine (rletter_any c _).mono ?_; rintro e w' ⟨rfl, rfl⟩
   rw [hl]
   go_wp2_with fail
   refine (HK.out _).mono ?_; rintro e w' ⟨rfl, rfl⟩
   go_wp2_with fail
   refine (HN.out _).mono ?_; rintro e w' ⟨rfl, rfl⟩
   go_wp2_with fail
   refine bodyPost_ret (v := .tuple #[.agg #[.int .i64 0, .string ⟨#[]⟩, .int .i64 0, .int .i64 0], .int .i64 ((p : Int)), .int .i64 2]) (by simp [results, Tryz.results153, go_sem]) rfl ?_
   exact nexted_err (((Below.refl _ _).alloc (Nat.le_refl _) _).alloc (by simp) _) (by simp [tokV]) (by omega)
 · have h64i : ¬ (64 : Int) < (x.size : Int) := by omega
   rw [if_neg h64] at hE0
   rw [hE0]
   clear hE0 h64 hxl
   have HSK := fun v : World => rskip_any (s := s) (at_ := a) (w := v) (by omega) ha
   rw [hk] at HSK
   have HSK := Lib.hid HSK
   have hsz0 : ¬ (s.size : Int) < (a : Int) ∧ ¬ (a : Int) < 0 := by omega
   clear hk
   go_enter Tryz.func153, Tryz.ntmps153
   go_wp2_with fail
   refine (HSK.out _).mono ?_; rintro e w' ⟨rfl, rfl⟩
   go_wp2_with fail
   refine (rletter_any c _).mono ?_; rintro e w' ⟨rfl, rfl⟩
   rw [hl]
   go_wp2_with fail
   refine (HK.out _).mono ?_; rintro e w' ⟨rfl, rfl⟩
   go_wp2_with fail
   refine (HN.out _).mono ?_; rintro e w' ⟨rfl, rfl⟩
   go_wp2_with fail
   refine bodyPost_ret (v := .tuple #[.agg #[.int .i64 1, .string x, .int .i64 0, .int .i64 (p : Int)], .int .i64 ((Z : Int)), .int .i64 0]) (by simp [results, Tryz.results153, go_sem]) rfl ?_
   exact nexted_ok (((Below.refl _ _).alloc (Nat.le_refl _) _).alloc (by simp) _) (by rw [HXW.out]; simp [tokV]) (by omega)
end Lx
end Go.Proofs.YtfbhokdcnjekiaaGreatDoor
namespace Go.Proofs.YtfbhokdcnjekiaaGreatDoor
open Go.RowKit
namespace Lx
variable {s : ByteArray} {p : Nat} {w : World}
set_option maxRecDepth 100000 in
set_option maxHeartbeats 3200000 in
theorem rnext_dollar_end (hs : s.size ≤ 140737488355327) {a : Nat} (ha : a ≤ s.size) (hk : sk none a (s.data.toList.drop a) = .ok p) (hp2 : p ≤ s.size) (hlt : p < s.size) (hcv : s[p] = 36) (h1 : p + 1 = s.size) :
  Calls Tryz.prog 153 #[.string s, .int .i64 (a : Int)] w (Nexted p (tokR (s.data.toList.drop p)) w) := by
 have hr : s.data.toList.drop p = s[p] :: s.data.toList.drop (p + 1) := drop_cons s p hlt
 have hE : tokR (s.data.toList.drop p) = .error (0, 4) := by rw [hr, hcv, List.drop_eq_nil_of_le (show s.data.toList.length ≤ p + 1 from Nat.le_of_eq h1.symm)]; rfl
 rw [hE]
 have hl : letter s[p] = false := by rw [hcv]; rfl
 have hdg : digit s[p] = false := by rw [hcv]; rfl
 have hpi : (p : Int) < (s.size : Int) := by omega
 have hpe : ((p : Int) == (s.size : Int)) = false := by rw [beq_eq_false_iff_ne]; omega
 obtain ⟨c, hc⟩ : ∃ c, s[p] = c := ⟨_, rfl⟩
 rw [hc] at hl hdg hcv
 have hs1 : IntKind.i64.wrap ((p : Int) + 1) = (p : Int) + 1 := IntWalk.i64_in _ (by omega)
 have hs2 : IntKind.i64.wrap ((p : Int) + 2) = (p : Int) + 2 := IntWalk.i64_in _ (by omega)
 have n36 : ((c.toNat : Int) == 36) = true := by rw [hcv]; rfl
 have h3 : ((p : Int) + 1 == (s.size : Int)) = true := by rw [beq_iff_eq]; omega
 clear hE hr hcv
 have HSK := fun v : World => rskip_any (s := s) (at_ := a) (w := v) (by omega) ha
 rw [hk] at HSK
 have HSK := Lib.hid HSK
 have hsz0 : ¬ (s.size : Int) < (a : Int) ∧ ¬ (a : Int) < 0 := by omega
 clear hk
 go_enter Tryz.func153, Tryz.ntmps153
 go_wp2_with fail
 refine (HSK.out _).mono ?_; rintro e w' ⟨rfl, rfl⟩
 go_wp2_with fail
 refine (rletter_any c _).mono ?_; rintro e w' ⟨rfl, rfl⟩
 rw [hl]
 go_wp2_with fail
 refine (rdigit_any c _).mono ?_; rintro e w' ⟨rfl, rfl⟩
 rw [hdg]
 go_wp2_with fail
 refine bodyPost_ret (v := .tuple #[.agg #[.int .i64 0, .string ⟨#[]⟩, .int .i64 0, .int .i64 0], .int .i64 ((p : Int)), .int .i64 4]) (by simp [results, Tryz.results153, go_sem]) rfl ?_
 exact nexted_err (((Below.refl _ _).alloc (Nat.le_refl _) _).alloc (by simp) _) (by simp [tokV]) (by omega)
set_option maxRecDepth 100000 in
set_option maxHeartbeats 3200000 in
theorem rnext_dollar (hs : s.size ≤ 140737488355327) {a : Nat} (ha : a ≤ s.size) (hk : sk none a (s.data.toList.drop a) = .ok p) (hp2 : p ≤ s.size) (hlt : p < s.size) (hcv : s[p] = 36) (h1 : p + 1 < s.size) :
  Calls Tryz.prog 153 #[.string s, .int .i64 (a : Int)] w (Nexted p (tokR (s.data.toList.drop p)) w) := by
 have hr : s.data.toList.drop p = s[p] :: s.data.toList.drop (p + 1) := drop_cons s p hlt
 have hE : tokR (s.data.toList.drop p) = .ok (⟨3, [], (s[p + 1].toNat : Int), 0⟩, 2) := by rw [hr, hcv, drop_cons s (p + 1) h1]; rfl
 rw [hE]
 obtain ⟨v, hv⟩ : ∃ v, s[p + 1].toNat = v := ⟨_, rfl⟩
 have hv2 : v < 256 := by rw [← hv]; exact s[p + 1].toNat_lt
 have hw1 : wrap64 (v : Int) = (v : Int) := by unfold wrap64; omega
 have hw2 : IntKind.i64.wrap (v : Int) = (v : Int) := IntWalk.i64_in _ (by omega)
 rw [hv]
 have hl : letter s[p] = false := by rw [hcv]; rfl
 have hdg : digit s[p] = false := by rw [hcv]; rfl
 have hpi : (p : Int) < (s.size : Int) := by omega
 have hpe : ((p : Int) == (s.size : Int)) = false := by rw [beq_eq_false_iff_ne]; omega
 obtain ⟨c, hc⟩ : ∃ c, s[p] = c := ⟨_, rfl⟩
 rw [hc] at hl hdg hcv
 have hs1 : IntKind.i64.wrap ((p : Int) + 1) = (p : Int) + 1 := IntWalk.i64_in _ (by omega)
 have hs2 : IntKind.i64.wrap ((p : Int) + 2) = (p : Int) + 2 := IntWalk.i64_in _ (by omega)
 have n36 : ((c.toNat : Int) == 36) = true := by rw [hcv]; rfl
 have h3 : (p : Int) + 1 < (s.size : Int) := by omega
 have h4 : (0 : Int) ≤ (p : Int) + 1 := by omega
 have h5 : ((p : Int) + 1).toNat = p + 1 := by omega
 have h6 : ((p : Int) + 1 == (s.size : Int)) = false := by rw [beq_eq_false_iff_ne]; omega
 clear hE hr hcv
 have HSK := fun v : World => rskip_any (s := s) (at_ := a) (w := v) (by omega) ha
 rw [hk] at HSK
 have HSK := Lib.hid HSK
 have hsz0 : ¬ (s.size : Int) < (a : Int) ∧ ¬ (a : Int) < 0 := by omega
 clear hk
 go_enter Tryz.func153, Tryz.ntmps153
 go_wp2_with fail
 refine (HSK.out _).mono ?_; rintro e w' ⟨rfl, rfl⟩
 go_wp2_with fail
 refine (rletter_any c _).mono ?_; rintro e w' ⟨rfl, rfl⟩
 rw [hl]
 go_wp2_with fail
 refine (rdigit_any c _).mono ?_; rintro e w' ⟨rfl, rfl⟩
 rw [hdg]
 go_wp2_with fail
 refine bodyPost_ret (v := .tuple #[.agg #[.int .i64 3, .string ⟨#[]⟩, .int .i64 (v : Int), .int .i64 (p : Int)], .int .i64 ((p : Int) + 2), .int .i64 0]) (by simp [results, Tryz.results153, go_sem]) rfl ?_
 exact nexted_ok (((Below.refl _ _).alloc (Nat.le_refl _) _).alloc (by simp) _) (by simp [tokV]) (by omega)
set_option maxRecDepth 100000 in
set_option maxHeartbeats 3200000 in
theorem rnext_assign (hs : s.size ≤ 140737488355327) {a : Nat} (ha : a ≤ s.size) (hk : sk none a (s.data.toList.drop a) = .ok p) (hp2 : p ≤ s.size) (hlt : p < s.size) (hcv : s[p] = 58) (h1 : p + 1 < s.size) (hd61 : s[p + 1] = 61) :
  Calls Tryz.prog 153 #[.string s, .int .i64 (a : Int)] w (Nexted p (tokR (s.data.toList.drop p)) w) := by
 have hr : s.data.toList.drop p = s[p] :: s.data.toList.drop (p + 1) := drop_cons s p hlt
 have hE0 : tokR (s.data.toList.drop p) = if hd (s.data.toList.drop (p + 1)) 0 = 61 then .ok (⟨7, [], 0, 0⟩, 2) else .ok (⟨16, [], 0, 0⟩, 1) := by rw [hr, hcv]; rfl
 rw [if_pos ((hd_drop s (p + 1) 0 h1).trans hd61)] at hE0
 rw [hE0]
 have hl : letter s[p] = false := by rw [hcv]; rfl
 have hdg : digit s[p] = false := by rw [hcv]; rfl
 have hpi : (p : Int) < (s.size : Int) := by omega
 have hpe : ((p : Int) == (s.size : Int)) = false := by rw [beq_eq_false_iff_ne]; omega
 obtain ⟨c, hc⟩ : ∃ c, s[p] = c := ⟨_, rfl⟩
 rw [hc] at hl hdg hcv
 have hs1 : IntKind.i64.wrap ((p : Int) + 1) = (p : Int) + 1 := IntWalk.i64_in _ (by omega)
 have hs2 : IntKind.i64.wrap ((p : Int) + 2) = (p : Int) + 2 := IntWalk.i64_in _ (by omega)
 have n36 : ((c.toNat : Int) == 36) = false := by rw [hcv]; rfl
 have n39 : ((c.toNat : Int) == 39) = false := by rw [hcv]; rfl
 have n35 : ((c.toNat : Int) == 35) = false := by rw [hcv]; rfl
 have n58 : ((c.toNat : Int) == 58) = true := by rw [hcv]; rfl
 have h3 : (p : Int) + 1 < (s.size : Int) := by omega
 have h4 : (0 : Int) ≤ (p : Int) + 1 := by omega
 have h5 : ((p : Int) + 1).toNat = p + 1 := by omega
 have n61 : ((s[p + 1].toNat : Int) == 61) = true := by rw [hd61]; rfl
 clear hE0 hr hcv hd61
 have HSK := fun v : World => rskip_any (s := s) (at_ := a) (w := v) (by omega) ha
 rw [hk] at HSK
 have HSK := Lib.hid HSK
 have hsz0 : ¬ (s.size : Int) < (a : Int) ∧ ¬ (a : Int) < 0 := by omega
 clear hk
 go_enter Tryz.func153, Tryz.ntmps153
 go_wp2_with fail
 refine (HSK.out _).mono ?_; rintro e w' ⟨rfl, rfl⟩
 go_wp2_with fail
 refine (rletter_any c _).mono ?_; rintro e w' ⟨rfl, rfl⟩
 rw [hl]
 go_wp2_with fail
 refine (rdigit_any c _).mono ?_; rintro e w' ⟨rfl, rfl⟩
 rw [hdg]
 go_wp2_with fail
 refine bodyPost_ret (v := .tuple #[.agg #[.int .i64 7, .string ⟨#[]⟩, .int .i64 0, .int .i64 (p : Int)], .int .i64 ((p : Int) + 2), .int .i64 0]) (by simp [results, Tryz.results153, go_sem]) rfl ?_
 exact nexted_ok (((Below.refl _ _).alloc (Nat.le_refl _) _).alloc (by simp) _) (by simp [tokV]) (by omega)
set_option maxRecDepth 100000 in
set_option maxHeartbeats 3200000 in
theorem rnext_colon (hs : s.size ≤ 140737488355327) {a : Nat} (ha : a ≤ s.size) (hk : sk none a (s.data.toList.drop a) = .ok p) (hp2 : p ≤ s.size) (hlt : p < s.size) (hcv : s[p] = 58) (hno : hd (s.data.toList.drop (p + 1)) 0 ≠ 61) :
  Calls Tryz.prog 153 #[.string s, .int .i64 (a : Int)] w (Nexted p (tokR (s.data.toList.drop p)) w) := by
 have hr : s.data.toList.drop p = s[p] :: s.data.toList.drop (p + 1) := drop_cons s p hlt
 have hE0 : tokR (s.data.toList.drop p) = if hd (s.data.toList.drop (p + 1)) 0 = 61 then .ok (⟨7, [], 0, 0⟩, 2) else .ok (⟨16, [], 0, 0⟩, 1) := by rw [hr, hcv]; rfl
 rw [if_neg hno] at hE0
 rw [hE0]
 have hl : letter s[p] = false := by rw [hcv]; rfl
 have hdg : digit s[p] = false := by rw [hcv]; rfl
 have hpi : (p : Int) < (s.size : Int) := by omega
 have hpe : ((p : Int) == (s.size : Int)) = false := by rw [beq_eq_false_iff_ne]; omega
 obtain ⟨c, hc⟩ : ∃ c, s[p] = c := ⟨_, rfl⟩
 rw [hc] at hl hdg hcv
 have hs1 : IntKind.i64.wrap ((p : Int) + 1) = (p : Int) + 1 := IntWalk.i64_in _ (by omega)
 have hs2 : IntKind.i64.wrap ((p : Int) + 2) = (p : Int) + 2 := IntWalk.i64_in _ (by omega)
 have n36 : ((c.toNat : Int) == 36) = false := by rw [hcv]; rfl
 have n39 : ((c.toNat : Int) == 39) = false := by rw [hcv]; rfl
 have n35 : ((c.toNat : Int) == 35) = false := by rw [hcv]; rfl
 have n58 : ((c.toNat : Int) == 58) = true := by rw [hcv]; rfl
 rcases Nat.lt_or_ge (p + 1) s.size with h1 | h1
 · have h3 : (p : Int) + 1 < (s.size : Int) := by omega
   have h4 : (0 : Int) ≤ (p : Int) + 1 := by omega
   have h5 : ((p : Int) + 1).toNat = p + 1 := by omega
   have n61 : ((s[p + 1].toNat : Int) == 61) = false := bne_u8 _ 61 (by omega) (by rw [hd_drop s (p + 1) 0 h1] at hno; exact hno)
   clear hE0 hr hcv hno
   have HSK := fun v : World => rskip_any (s := s) (at_ := a) (w := v) (by omega) ha
   rw [hk] at HSK
   have HSK := Lib.hid HSK
   have hsz0 : ¬ (s.size : Int) < (a : Int) ∧ ¬ (a : Int) < 0 := by omega
   clear hk
   go_enter Tryz.func153, Tryz.ntmps153
   go_wp2_with fail
   refine (HSK.out _).mono ?_; rintro e w' ⟨rfl, rfl⟩
   go_wp2_with fail
   refine (rletter_any c _).mono ?_; rintro e w' ⟨rfl, rfl⟩
   rw [hl]
   go_wp2_with fail
   refine (rdigit_any c _).mono ?_; rintro e w' ⟨rfl, rfl⟩
   rw [hdg]
   go_wp2_with fail
   refine bodyPost_ret (v := .tuple #[.agg #[.int .i64 16, .string ⟨#[]⟩, .int .i64 0, .int .i64 (p : Int)], .int .i64 ((p : Int) + 1), .int .i64 0]) (by simp [results, Tryz.results153, go_sem]) rfl ?_
   exact nexted_ok (((Below.refl _ _).alloc (Nat.le_refl _) _).alloc (by simp) _) (by simp [tokV]) (by omega)
 · have h3 : ¬ (p : Int) + 1 < (s.size : Int) := by omega
   clear hE0 hr hcv hno
   have HSK := fun v : World => rskip_any (s := s) (at_ := a) (w := v) (by omega) ha
   rw [hk] at HSK
   have HSK := Lib.hid HSK
   have hsz0 : ¬ (s.size : Int) < (a : Int) ∧ ¬ (a : Int) < 0 := by omega
   clear hk
   go_enter Tryz.func153, Tryz.ntmps153
   go_wp2_with fail
   refine (HSK.out _).mono ?_; rintro e w' ⟨rfl, rfl⟩
   go_wp2_with fail
   refine (rletter_any c _).mono ?_; rintro e w' ⟨rfl, rfl⟩
   rw [hl]
   go_wp2_with fail
   refine (rdigit_any c _).mono ?_; rintro e w' ⟨rfl, rfl⟩
   rw [hdg]
   go_wp2_with fail
   refine bodyPost_ret (v := .tuple #[.agg #[.int .i64 16, .string ⟨#[]⟩, .int .i64 0, .int .i64 (p : Int)], .int .i64 ((p : Int) + 1), .int .i64 0]) (by simp [results, Tryz.results153, go_sem]) rfl ?_
   exact nexted_ok (((Below.refl _ _).alloc (Nat.le_refl _) _).alloc (by simp) _) (by simp [tokV]) (by omega)
end Lx
end Go.Proofs.YtfbhokdcnjekiaaGreatDoor
namespace Go.Proofs.YtfbhokdcnjekiaaGreatDoor
open Go.RowKit
namespace Lx
variable {s : ByteArray} {p : Nat} {w : World}
set_option maxRecDepth 100000 in
set_option maxHeartbeats 3200000 in
theorem rnext_text (hs : s.size ≤ 140737488355327) {a : Nat} (ha : a ≤ s.size) (hk : sk none a (s.data.toList.drop a) = .ok p) (hp2 : p ≤ s.size) (hlt : p < s.size) (hcv : s[p] = 39) :
  Calls Tryz.prog 153 #[.string s, .int .i64 (a : Int)] w (Nexted p (tokR (s.data.toList.drop p)) w) := by
 have hr : s.data.toList.drop p = s[p] :: s.data.toList.drop (p + 1) := drop_cons s p hlt
 have hE0 : tokR (s.data.toList.drop p) = match txt (s.data.toList.drop (p + 1)) with
   | none => .error (0, 4)
   | some (w, n) => if 4096 < w.length then .error (0, 2) else .ok (⟨4, w, 0, 0⟩, n + 1) := by rw [hr, hcv]; rfl
 have HTX := fun v : World => rtext_at (s := s) (at_ := p) (w := v) hs hlt
 obtain ⟨x, hx⟩ : ∃ x, txt (s.data.toList.drop (p + 1)) = x := ⟨_, rfl⟩
 rw [hx] at HTX hE0
 have hl : letter s[p] = false := by rw [hcv]; rfl
 have hdg : digit s[p] = false := by rw [hcv]; rfl
 have hpi : (p : Int) < (s.size : Int) := by omega
 have hpe : ((p : Int) == (s.size : Int)) = false := by rw [beq_eq_false_iff_ne]; omega
 obtain ⟨c, hc⟩ : ∃ c, s[p] = c := ⟨_, rfl⟩
 rw [hc] at hl hdg hcv
 have n36 : ((c.toNat : Int) == 36) = false := by rw [hcv]; rfl
 have n39 : ((c.toNat : Int) == 39) = true := by rw [hcv]; rfl
 clear hr hcv hx
 cases x with
 | none =>
  rw [show tokR (s.data.toList.drop p) = .error (0, 4) from hE0]
  have HT2 := Lib.hid HTX
  clear hE0 HTX
  have hT4 : Tk R9 w.heap.size 0 ⟨#[]⟩ 0 0 ((w.alloc (Obj.cells #[.int .i64 0, .string ⟨#[]⟩, .int .i64 0, .int .i64 0] R9)).alloc (Obj.cells #[.int .i64 0, .string ⟨#[]⟩, .int .i64 0, .int .i64 (p : Int)] R9)) := (Tk.made w).alloc _
  have hT7 : Tk R9 (w.heap.size + 1) 0 ⟨#[]⟩ 0 (p : Int) ((w.alloc (Obj.cells #[.int .i64 0, .string ⟨#[]⟩, .int .i64 0, .int .i64 0] R9)).alloc (Obj.cells #[.int .i64 0, .string ⟨#[]⟩, .int .i64 0, .int .i64 (p : Int)] R9)) := by
   have := Tk.made (T := R9) (kd := 0) (wd := ⟨#[]⟩) (n := 0) (a := (p : Int)) (w.alloc (Obj.cells #[.int .i64 0, .string ⟨#[]⟩, .int .i64 0, .int .i64 0] R9)); simpa using this
  have hB0 : Below w.heap.size w ((w.alloc (Obj.cells #[.int .i64 0, .string ⟨#[]⟩, .int .i64 0, .int .i64 0] R9)).alloc (Obj.cells #[.int .i64 0, .string ⟨#[]⟩, .int .i64 0, .int .i64 (p : Int)] R9)) := ((Below.refl _ _).alloc (Nat.le_refl _) _).alloc (by simp) _
  have HSK := fun v : World => rskip_any (s := s) (at_ := a) (w := v) (by omega) ha
  rw [hk] at HSK
  have HSK := Lib.hid HSK
  have hsz0 : ¬ (s.size : Int) < (a : Int) ∧ ¬ (a : Int) < 0 := by omega
  clear hk
  go_enter Tryz.func153, Tryz.ntmps153
  go_wp2_with fail
  refine (HSK.out _).mono ?_; rintro e w' ⟨rfl, rfl⟩
  go_wp2_with fail
  refine (rletter_any c _).mono ?_; rintro e w' ⟨rfl, rfl⟩
  rw [hl]
  go_wp2_with fail
  refine (rdigit_any c _).mono ?_; rintro e w' ⟨rfl, rfl⟩
  rw [hdg]
  go_wp2_with fail
  refine (HT2.out _).mono ?_; rintro e w3 ⟨hb3, rfl⟩
  have hT4 := (hb3.block _ hT4.lt).trans hT4
  have hT7 := (hb3.block _ hT7.lt).trans hT7
  have hT4 : Tk R9 w.heap.size 0 ⟨#[]⟩ 0 0 w3 := hT4
  have hT7 : Tk R9 (w.heap.size + 1) 0 ⟨#[]⟩ 0 (p : Int) w3 := hT7
  have hb3 := hB0.trans (hb3.mono hB0.size)
  have e0 := hT4.c0
  have e1 := hT4.c1
  have e2 := hT4.c2
  have e3 := hT4.c3
  have ef := hT4.fz
  have g0 := hT7.c0
  have g1 := hT7.c1
  have g2 := hT7.c2
  have g3 := hT7.c3
  have gf := hT7.fz
  have hne5 : ¬ w.heap.size = w.heap.size + 1 := by omega
  have hne6 : ¬ w.heap.size + 1 = w.heap.size := by omega
  clear hB0
  go_wp2_with fail
  refine bodyPost_ret (v := .tuple #[.agg #[.int .i64 0, .string ⟨#[]⟩, .int .i64 0, .int .i64 0], .int .i64 ((p : Int)), .int .i64 4]) (by simp [results, Tryz.results153, go_sem, e0, e1, e2, e3]) rfl ?_
  exact nexted_err (below4 hb3 (Nat.le_refl _) _ _ _ _) (by simp [tokV]) (by omega)
 | some y =>
  obtain ⟨l, z⟩ := y
  simp only at hE0
  rw [show moved2 [] (p + 1) (some (l, z)) = some (l, z + (p + 1)) from rfl] at HTX
  have HT2 := Lib.hid HTX
  clear HTX
  have hll : (⟨l.toArray⟩ : ByteArray).size = l.length := by simp [ByteArray.size]
  by_cases hbig : 4096 < l.length
  · have hbi : (4096 : Int) < ((⟨l.toArray⟩ : ByteArray).size : Int) := by rw [hll]; omega
    rw [hE0, if_pos hbig]
    obtain ⟨y, hy⟩ : ∃ y : ByteArray, (⟨l.toArray⟩ : ByteArray) = y := ⟨_, rfl⟩
    rw [hy] at hbi
    have HY := Lib.hid hy
    clear hE0 hll hbig hy
    have hT4 : Tk R9 w.heap.size 0 ⟨#[]⟩ 0 0 ((w.alloc (Obj.cells #[.int .i64 0, .string ⟨#[]⟩, .int .i64 0, .int .i64 0] R9)).alloc (Obj.cells #[.int .i64 0, .string ⟨#[]⟩, .int .i64 0, .int .i64 (p : Int)] R9)) := (Tk.made w).alloc _
    have hT7 : Tk R9 (w.heap.size + 1) 0 ⟨#[]⟩ 0 (p : Int) ((w.alloc (Obj.cells #[.int .i64 0, .string ⟨#[]⟩, .int .i64 0, .int .i64 0] R9)).alloc (Obj.cells #[.int .i64 0, .string ⟨#[]⟩, .int .i64 0, .int .i64 (p : Int)] R9)) := by
     have := Tk.made (T := R9) (kd := 0) (wd := ⟨#[]⟩) (n := 0) (a := (p : Int)) (w.alloc (Obj.cells #[.int .i64 0, .string ⟨#[]⟩, .int .i64 0, .int .i64 0] R9)); simpa using this
    have hB0 : Below w.heap.size w ((w.alloc (Obj.cells #[.int .i64 0, .string ⟨#[]⟩, .int .i64 0, .int .i64 0] R9)).alloc (Obj.cells #[.int .i64 0, .string ⟨#[]⟩, .int .i64 0, .int .i64 (p : Int)] R9)) := ((Below.refl _ _).alloc (Nat.le_refl _) _).alloc (by simp) _
    have HSK := fun v : World => rskip_any (s := s) (at_ := a) (w := v) (by omega) ha
    rw [hk] at HSK
    have HSK := Lib.hid HSK
    have hsz0 : ¬ (s.size : Int) < (a : Int) ∧ ¬ (a : Int) < 0 := by omega
    clear hk
    go_enter Tryz.func153, Tryz.ntmps153
    go_wp2_with fail
    refine (HSK.out _).mono ?_; rintro e w' ⟨rfl, rfl⟩
    go_wp2_with fail
    refine (rletter_any c _).mono ?_; rintro e w' ⟨rfl, rfl⟩
    rw [hl]
    go_wp2_with fail
    refine (rdigit_any c _).mono ?_; rintro e w' ⟨rfl, rfl⟩
    rw [hdg]
    go_wp2_with fail
    refine (HT2.out _).mono ?_; rintro e w3 ⟨hb3, rfl⟩
    rw [HY.out]
    have hT4 := (hb3.block _ hT4.lt).trans hT4
    have hT7 := (hb3.block _ hT7.lt).trans hT7
    have hT4 : Tk R9 w.heap.size 0 ⟨#[]⟩ 0 0 w3 := hT4
    have hT7 : Tk R9 (w.heap.size + 1) 0 ⟨#[]⟩ 0 (p : Int) w3 := hT7
    have hb3 := hB0.trans (hb3.mono hB0.size)
    have e0 := hT4.c0
    have e1 := hT4.c1
    have e2 := hT4.c2
    have e3 := hT4.c3
    have ef := hT4.fz
    have g0 := hT7.c0
    have g1 := hT7.c1
    have g2 := hT7.c2
    have g3 := hT7.c3
    have gf := hT7.fz
    have hne5 : ¬ w.heap.size = w.heap.size + 1 := by omega
    have hne6 : ¬ w.heap.size + 1 = w.heap.size := by omega
    clear hB0
    go_wp2_with fail
    refine bodyPost_ret (v := .tuple #[.agg #[.int .i64 0, .string ⟨#[]⟩, .int .i64 0, .int .i64 0], .int .i64 ((p : Int)), .int .i64 2]) (by simp [results, Tryz.results153, go_sem, e0, e1, e2, e3]) rfl ?_
    exact nexted_err (below4 hb3 (Nat.le_refl _) _ _ _ _) (by simp [tokV]) (by omega)
  · have hbi : ¬ (4096 : Int) < ((⟨l.toArray⟩ : ByteArray).size : Int) := by rw [hll]; omega
    rw [hE0, if_neg hbig]
    obtain ⟨y, hy⟩ : ∃ y : ByteArray, (⟨l.toArray⟩ : ByteArray) = y := ⟨_, rfl⟩
    rw [hy] at hbi
    have HY := Lib.hid hy
    clear hE0 hll hbig hy
    have hT4 : Tk R9 w.heap.size 0 ⟨#[]⟩ 0 0 ((w.alloc (Obj.cells #[.int .i64 0, .string ⟨#[]⟩, .int .i64 0, .int .i64 0] R9)).alloc (Obj.cells #[.int .i64 0, .string ⟨#[]⟩, .int .i64 0, .int .i64 (p : Int)] R9)) := (Tk.made w).alloc _
    have hT7 : Tk R9 (w.heap.size + 1) 0 ⟨#[]⟩ 0 (p : Int) ((w.alloc (Obj.cells #[.int .i64 0, .string ⟨#[]⟩, .int .i64 0, .int .i64 0] R9)).alloc (Obj.cells #[.int .i64 0, .string ⟨#[]⟩, .int .i64 0, .int .i64 (p : Int)] R9)) := by
     have := Tk.made (T := R9) (kd := 0) (wd := ⟨#[]⟩) (n := 0) (a := (p : Int)) (w.alloc (Obj.cells #[.int .i64 0, .string ⟨#[]⟩, .int .i64 0, .int .i64 0] R9)); simpa using this
    have hB0 : Below w.heap.size w ((w.alloc (Obj.cells #[.int .i64 0, .string ⟨#[]⟩, .int .i64 0, .int .i64 0] R9)).alloc (Obj.cells #[.int .i64 0, .string ⟨#[]⟩, .int .i64 0, .int .i64 (p : Int)] R9)) := ((Below.refl _ _).alloc (Nat.le_refl _) _).alloc (by simp) _
    have HSK := fun v : World => rskip_any (s := s) (at_ := a) (w := v) (by omega) ha
    rw [hk] at HSK
    have HSK := Lib.hid HSK
    have hsz0 : ¬ (s.size : Int) < (a : Int) ∧ ¬ (a : Int) < 0 := by omega
    clear hk
    go_enter Tryz.func153, Tryz.ntmps153
    go_wp2_with fail
    refine (HSK.out _).mono ?_; rintro e w' ⟨rfl, rfl⟩
    go_wp2_with fail
    refine (rletter_any c _).mono ?_; rintro e w' ⟨rfl, rfl⟩
    rw [hl]
    go_wp2_with fail
    refine (rdigit_any c _).mono ?_; rintro e w' ⟨rfl, rfl⟩
    rw [hdg]
    go_wp2_with fail
    refine (HT2.out _).mono ?_; rintro e w3 ⟨hb3, rfl⟩
    rw [HY.out]
    have hT4 := (hb3.block _ hT4.lt).trans hT4
    have hT7 := (hb3.block _ hT7.lt).trans hT7
    have hT4 : Tk R9 w.heap.size 0 ⟨#[]⟩ 0 0 w3 := hT4
    have hT7 : Tk R9 (w.heap.size + 1) 0 ⟨#[]⟩ 0 (p : Int) w3 := hT7
    have hb3 := hB0.trans (hb3.mono hB0.size)
    have e0 := hT4.c0
    have e1 := hT4.c1
    have e2 := hT4.c2
    have e3 := hT4.c3
    have ef := hT4.fz
    have g0 := hT7.c0
    have g1 := hT7.c1
    have g2 := hT7.c2
    have g3 := hT7.c3
    have gf := hT7.fz
    have hne5 : ¬ w.heap.size = w.heap.size + 1 := by omega
    have hne6 : ¬ w.heap.size + 1 = w.heap.size := by omega
    clear hB0
    go_wp2_with fail
    refine bodyPost_ret (v := .tuple #[.agg #[.int .i64 4, .string y, .int .i64 0, .int .i64 (p : Int)], .int .i64 (((z + (p + 1) : Nat) : Int)), .int .i64 0]) (by simp [results, Tryz.results153, go_sem, e0, e1, e2, e3]) rfl ?_
    exact nexted_ok (below4 ((hb3.setCell (p := ⟨w.heap.size + 1, 0, none⟩) (show w.heap.size ≤ w.heap.size + 1 by omega) _).setCell (p := ⟨w.heap.size + 1, 1, none⟩) (show w.heap.size ≤ w.heap.size + 1 by omega) _) (Nat.le_refl _) _ _ _ _) (by rw [← HY.out]; simp [tokV]) (by omega)
set_option maxRecDepth 100000 in
set_option maxHeartbeats 3200000 in
theorem rnext_hash (hs : s.size ≤ 140737488355327) {a : Nat} (ha : a ≤ s.size) (hk : sk none a (s.data.toList.drop a) = .ok p) (hp2 : p ≤ s.size) (hlt : p < s.size) (hcv : s[p] = 35) :
  Calls Tryz.prog 153 #[.string s, .int .i64 (a : Int)] w (Nexted p (tokR (s.data.toList.drop p)) w) := by
 have hr : s.data.toList.drop p = s[p] :: s.data.toList.drop (p + 1) := drop_cons s p hlt
 have hE : tokR (s.data.toList.drop p) = symR (s.data.toList.drop (p + 1)) := by rw [hr, hcv]; rfl
 rw [hE]
 have HS0 := fun v : World => rsym_any (s := s) (at_ := p) (w := v) hs hlt
 obtain ⟨E, hEE⟩ : ∃ E, symR (s.data.toList.drop (p + 1)) = E := ⟨_, rfl⟩
 rw [hEE] at HS0 ⊢
 have HS := Lib.hid HS0
 have hl : letter s[p] = false := by rw [hcv]; rfl
 have hdg : digit s[p] = false := by rw [hcv]; rfl
 have hpi : (p : Int) < (s.size : Int) := by omega
 have hpe : ((p : Int) == (s.size : Int)) = false := by rw [beq_eq_false_iff_ne]; omega
 obtain ⟨c, hc⟩ : ∃ c, s[p] = c := ⟨_, rfl⟩
 rw [hc] at hl hdg hcv
 have n36 : ((c.toNat : Int) == 36) = false := by rw [hcv]; rfl
 have n39 : ((c.toNat : Int) == 39) = false := by rw [hcv]; rfl
 have n35 : ((c.toNat : Int) == 35) = true := by rw [hcv]; rfl
 clear hE hr hcv hEE HS0
 have hT4 : Tk R9 w.heap.size 0 ⟨#[]⟩ 0 0 ((w.alloc (Obj.cells #[.int .i64 0, .string ⟨#[]⟩, .int .i64 0, .int .i64 0] R9)).alloc (Obj.cells #[.int .i64 0, .string ⟨#[]⟩, .int .i64 0, .int .i64 (p : Int)] R9)) := (Tk.made w).alloc _
 have hT7 : Tk R9 (w.heap.size + 1) 0 ⟨#[]⟩ 0 (p : Int) ((w.alloc (Obj.cells #[.int .i64 0, .string ⟨#[]⟩, .int .i64 0, .int .i64 0] R9)).alloc (Obj.cells #[.int .i64 0, .string ⟨#[]⟩, .int .i64 0, .int .i64 (p : Int)] R9)) := by
  have := Tk.made (T := R9) (kd := 0) (wd := ⟨#[]⟩) (n := 0) (a := (p : Int)) (w.alloc (Obj.cells #[.int .i64 0, .string ⟨#[]⟩, .int .i64 0, .int .i64 0] R9)); simpa using this
 have hB0 : Below w.heap.size w ((w.alloc (Obj.cells #[.int .i64 0, .string ⟨#[]⟩, .int .i64 0, .int .i64 0] R9)).alloc (Obj.cells #[.int .i64 0, .string ⟨#[]⟩, .int .i64 0, .int .i64 (p : Int)] R9)) := ((Below.refl _ _).alloc (Nat.le_refl _) _).alloc (by simp) _
 have HSK := fun v : World => rskip_any (s := s) (at_ := a) (w := v) (by omega) ha
 rw [hk] at HSK
 have HSK := Lib.hid HSK
 have hsz0 : ¬ (s.size : Int) < (a : Int) ∧ ¬ (a : Int) < 0 := by omega
 clear hk
 go_enter Tryz.func153, Tryz.ntmps153
 go_wp2_with fail
 refine (HSK.out _).mono ?_; rintro e w' ⟨rfl, rfl⟩
 go_wp2_with fail
 refine (rletter_any c _).mono ?_; rintro e w' ⟨rfl, rfl⟩
 rw [hl]
 go_wp2_with fail
 refine (rdigit_any c _).mono ?_; rintro e w' ⟨rfl, rfl⟩
 rw [hdg]
 go_wp2_with fail
 refine (HS.out _).mono ?_; intro e w3 ht
 obtain ⟨hb3, ht⟩ := ht
 have hT4 := (hb3.block _ hT4.lt).trans hT4
 have hT7 := (hb3.block _ hT7.lt).trans hT7
 have hT4 : Tk R9 w.heap.size 0 ⟨#[]⟩ 0 0 w3 := hT4
 have hT7 : Tk R9 (w.heap.size + 1) 0 ⟨#[]⟩ 0 (p : Int) w3 := hT7
 have hb3 := hB0.trans (hb3.mono hB0.size)
 have e0 := hT4.c0
 have e1 := hT4.c1
 have e2 := hT4.c2
 have e3 := hT4.c3
 have ef := hT4.fz
 have g0 := hT7.c0
 have g1 := hT7.c1
 have g2 := hT7.c2
 have g3 := hT7.c3
 have gf := hT7.fz
 have hne5 : ¬ w.heap.size = w.heap.size + 1 := by omega
 have hne6 : ¬ w.heap.size + 1 = w.heap.size := by omega
 clear hB0
 cases E with
 | error x =>
  obtain ⟨q, n⟩ := x
  subst ht
  rw [show tokV 0 ⟨0, [], 0, 0⟩ = .agg #[.int .i64 0, .string ⟨#[]⟩, .int .i64 0, .int .i64 0] from rfl]
  obtain ⟨Q, hQ⟩ : ∃ Q : Int, ((p + q : Nat) : Int) = Q := ⟨_, rfl⟩
  rw [hQ]
  go_wp2_with fail
  refine bodyPost_ret (v := .tuple #[.agg #[.int .i64 0, .string ⟨#[]⟩, .int .i64 0, .int .i64 0], .int .i64 (Q), .int .i64 n]) (by simp [results, Tryz.results153, go_sem, e0, e1, e2, e3]) rfl ?_
  exact nexted_err (below4 hb3 (Nat.le_refl _) _ _ _ _) (by simp [tokV]) hQ.symm
 | ok y =>
  obtain ⟨t, n⟩ := y
  subst ht
  obtain ⟨kd, wd, nn, aa, hV⟩ : ∃ (kd : Int) (wd : ByteArray) (nn aa : Int), tokV p t = .agg #[.int .i64 kd, .string wd, .int .i64 nn, .int .i64 aa] := ⟨_, _, _, _, rfl⟩
  rw [hV]
  obtain ⟨Q, hQ⟩ : ∃ Q : Int, ((p + n : Nat) : Int) = Q := ⟨_, rfl⟩
  rw [hQ]
  have HV := Lib.hid hV
  clear hV
  go_wp2_with fail
  refine bodyPost_ret (v := .tuple #[.agg #[.int .i64 kd, .string wd, .int .i64 nn, .int .i64 aa], .int .i64 (Q), .int .i64 0]) (by simp [results, Tryz.results153, go_sem, e0, e1, e2, e3]) rfl ?_
  exact nexted_ok (below4 hb3 (Nat.le_refl _) _ _ _ _) HV.out.symm hQ.symm
end Lx
end Go.Proofs.YtfbhokdcnjekiaaGreatDoor
namespace Go.Proofs.YtfbhokdcnjekiaaGreatDoor
open Go.RowKit
namespace Lx
variable {s : ByteArray} {p : Nat} {w : World}
set_option maxRecDepth 100000 in
set_option maxHeartbeats 3200000 in
theorem rnext_digits (hs : s.size ≤ 140737488355327) {a : Nat} (ha : a ≤ s.size) (hk : sk none a (s.data.toList.drop a) = .ok p) (hp2 : p ≤ s.size) (hlt : p < s.size) (hl : letter s[p] = false) (hdg : digit s[p] = true) :
  Calls Tryz.prog 153 #[.string s, .int .i64 (a : Int)] w (Nexted p (tokR (s.data.toList.drop p)) w) := by
 have hr : s.data.toList.drop p = s[p] :: s.data.toList.drop (p + 1) := drop_cons s p hlt
 have hE0 : tokR (s.data.toList.drop p) = if Sm.pe ((s.data.toList.drop p).takeWhile digit) = 0 then .ok (⟨3, [], Sm.pv ((s.data.toList.drop p).takeWhile digit), 0⟩, ((s.data.toList.drop p).takeWhile digit).length) else .error (0, Sm.pe ((s.data.toList.drop p).takeWhile digit)) := by
  rw [hr]; simp only [tokR, tokC, hl, hdg, Bool.false_eq_true, if_false, if_true]
 have H2 := tw_fit digit s p hp2
 have H3 := fun (k : Nat) (h : k < s.size) (h1 : p ≤ k) (h2 : k < p + ((s.data.toList.drop p).takeWhile digit).length) => tw_in digit s p k h h1 h2
 have H4 := fun (h : p + ((s.data.toList.drop p).takeWhile digit).length < s.size) => tw_out digit s p h
 have hxw := ext_word s p ((s.data.toList.drop p).takeWhile digit).length H2
 have htk : (s.data.toList.drop p).take ((s.data.toList.drop p).takeWhile digit).length = (s.data.toList.drop p).takeWhile digit := (List.prefix_iff_eq_take.1 (List.takeWhile_prefix _)).symm
 rw [htk] at hxw
 clear htk hr
 obtain ⟨ds, hds⟩ : ∃ ds, (s.data.toList.drop p).takeWhile digit = ds := ⟨_, rfl⟩
 rw [hds] at H2 H3 H4 hxw hE0
 clear hds
 obtain ⟨x, hx⟩ : ∃ x, s.extract p (p + ds.length) = x := ⟨_, rfl⟩
 rw [hx] at hxw
 have hxs : x.size ≤ 1152921504606846976 := by rw [← hx, ByteArray.size_extract]; omega
 have HP0 := fun v : World => rparse_any x v hxs
 have hxl : x.data.toList = ds := by rw [hxw]
 rw [hxl] at HP0
 clear hxl hxw hxs
 obtain ⟨pe, hpe⟩ : ∃ n, Sm.pe ds = n := ⟨_, rfl⟩
 obtain ⟨pv, hpv⟩ : ∃ n, Sm.pv ds = n := ⟨_, rfl⟩
 rw [hpe, hpv] at HP0 hE0
 rw [hE0]
 clear hE0 hpe hpv
 obtain ⟨n, hn⟩ : ∃ n, ds.length = n := ⟨_, rfl⟩
 rw [hn] at H2 H3 H4 hx ⊢
 clear hn
 obtain ⟨z, hz⟩ : ∃ z, p + n = z := ⟨_, rfl⟩
 rw [hz] at H2 H3 H4 hx
 have hz1 : p ≤ z := by omega
 have HZ := Lib.hid hz
 clear hz
 have HP := Lib.hid HP0
 have G3 := Lib.hid H3
 have G4 := Lib.hid H4
 clear HP0 H3 H4
 have hpi : (p : Int) < (s.size : Int) := by omega
 have hpe : ((p : Int) == (s.size : Int)) = false := by rw [beq_eq_false_iff_ne]; omega
 obtain ⟨c, hc⟩ : ∃ c, s[p] = c := ⟨_, rfl⟩
 rw [hc] at hl hdg
 by_cases h0 : pe = 0
 · subst h0
   rw [if_pos rfl]
   have HSK := fun v : World => rskip_any (s := s) (at_ := a) (w := v) (by omega) ha
   rw [hk] at HSK
   have HSK := Lib.hid HSK
   have hsz0 : ¬ (s.size : Int) < (a : Int) ∧ ¬ (a : Int) < 0 := by omega
   clear hk
   go_enter Tryz.func153, Tryz.ntmps153
   go_wp2_with fail
   refine (HSK.out _).mono ?_; rintro e w' ⟨rfl, rfl⟩
   go_wp2_with fail
   refine (rletter_any c _).mono ?_; rintro e w' ⟨rfl, rfl⟩
   rw [hl]
   go_wp2_with fail
   refine (rdigit_any c _).mono ?_; rintro e w' ⟨rfl, rfl⟩
   rw [hdg]
   go_wp2_with fail
   go_loop [11] (fun y => ∃ k : Nat, y = .int .i64 (k : Int) ∧ p ≤ k ∧ k ≤ z) (fun y => s.size - (intOf y).toNat)
   case atStart => exact ⟨p, rfl, Nat.le_refl _, hz1⟩
   case round =>
    obtain ⟨k, rfl, hk1, hk2⟩ := hrel
    clear hc hl hdg hpi hpe hlt
    by_cases hks : k < s.size
    · have hki : (k : Int) < (s.size : Int) := by omega
      have hkw : IntKind.i64.wrap ((k : Int) + 1) = (k : Int) + 1 := IntWalk.i64_in _ (by have := HZ.out; omega)
      by_cases hkz : k < z
      · have hd1 := G3.out k hks hk1 hkz
        go_wp2_with fail
        refine (rdigit_any _ _).mono ?_; rintro e w' ⟨rfl, rfl⟩
        rw [hd1]
        go_wp2_with fail
        exact ⟨⟨k + 1, vint (by omega), by omega, by omega⟩, by simp only [intOf]; omega⟩
      · obtain rfl : k = z := by omega
        have hd1 := G4.out hks
        have hz2 : (p : Int) ≤ (k : Int) := by omega
        have hz3 : (k : Int) ≤ (s.size : Int) := by omega
        have HK := Lib.hid HZ.out
        go_wp2_with fail
        refine (rdigit_any _ _).mono ?_; rintro e w' ⟨rfl, rfl⟩
        rw [hd1]
        go_wp2_with fail
        refine (HP.out _).mono ?_; rintro e w' ⟨rfl, rfl⟩
        go_wp2_with fail
        refine bodyPost_ret (v := .tuple #[.agg #[.int .i64 3, .string ⟨#[]⟩, .int .i64 pv, .int .i64 (p : Int)], .int .i64 ((k : Int)), .int .i64 0]) (by simp [results, Tryz.results153, go_sem]) rfl ?_
        exact nexted_ok (((Below.refl _ _).alloc (Nat.le_refl _) _).alloc (by simp) _) (by simp [tokV]) (by have := HZ.out; omega)
    · have hki : ¬ (k : Int) < (s.size : Int) := by omega
      obtain rfl : k = z := by omega
      have hz2 : (p : Int) ≤ (k : Int) := by omega
      have hz3 : (k : Int) ≤ (s.size : Int) := by omega
      go_wp2_with fail
      refine (HP.out _).mono ?_; rintro e w' ⟨rfl, rfl⟩
      go_wp2_with fail
      refine bodyPost_ret (v := .tuple #[.agg #[.int .i64 3, .string ⟨#[]⟩, .int .i64 pv, .int .i64 (p : Int)], .int .i64 ((k : Int)), .int .i64 0]) (by simp [results, Tryz.results153, go_sem]) rfl ?_
      exact nexted_ok (((Below.refl _ _).alloc (Nat.le_refl _) _).alloc (by simp) _) (by simp [tokV]) (by have := HZ.out; omega)
 · rw [if_neg h0]
   have hb0 : (pe == 0) = false := by simpa using h0
   have hb1 : (pe != 0) = true := by simpa using h0
   have HSK := fun v : World => rskip_any (s := s) (at_ := a) (w := v) (by omega) ha
   rw [hk] at HSK
   have HSK := Lib.hid HSK
   have hsz0 : ¬ (s.size : Int) < (a : Int) ∧ ¬ (a : Int) < 0 := by omega
   clear hk
   go_enter Tryz.func153, Tryz.ntmps153
   go_wp2_with fail
   refine (HSK.out _).mono ?_; rintro e w' ⟨rfl, rfl⟩
   go_wp2_with fail
   refine (rletter_any c _).mono ?_; rintro e w' ⟨rfl, rfl⟩
   rw [hl]
   go_wp2_with fail
   refine (rdigit_any c _).mono ?_; rintro e w' ⟨rfl, rfl⟩
   rw [hdg]
   go_wp2_with fail
   go_loop [11] (fun y => ∃ k : Nat, y = .int .i64 (k : Int) ∧ p ≤ k ∧ k ≤ z) (fun y => s.size - (intOf y).toNat)
   case atStart => exact ⟨p, rfl, Nat.le_refl _, hz1⟩
   case round =>
    obtain ⟨k, rfl, hk1, hk2⟩ := hrel
    clear hc hl hdg hpi hpe hlt
    by_cases hks : k < s.size
    · have hki : (k : Int) < (s.size : Int) := by omega
      have hkw : IntKind.i64.wrap ((k : Int) + 1) = (k : Int) + 1 := IntWalk.i64_in _ (by have := HZ.out; omega)
      by_cases hkz : k < z
      · have hd1 := G3.out k hks hk1 hkz
        go_wp2_with fail
        refine (rdigit_any _ _).mono ?_; rintro e w' ⟨rfl, rfl⟩
        rw [hd1]
        go_wp2_with fail
        exact ⟨⟨k + 1, vint (by omega), by omega, by omega⟩, by simp only [intOf]; omega⟩
      · obtain rfl : k = z := by omega
        have hd1 := G4.out hks
        have hz2 : (p : Int) ≤ (k : Int) := by omega
        have hz3 : (k : Int) ≤ (s.size : Int) := by omega
        have HK := Lib.hid HZ.out
        go_wp2_with fail
        refine (rdigit_any _ _).mono ?_; rintro e w' ⟨rfl, rfl⟩
        rw [hd1]
        go_wp2_with fail
        refine (HP.out _).mono ?_; rintro e w' ⟨rfl, rfl⟩
        go_wp2_with fail
        refine bodyPost_ret (v := .tuple #[.agg #[.int .i64 0, .string ⟨#[]⟩, .int .i64 0, .int .i64 0], .int .i64 ((p : Int)), .int .i64 pe]) (by simp [results, Tryz.results153, go_sem]) rfl ?_
        exact nexted_err (((Below.refl _ _).alloc (Nat.le_refl _) _).alloc (by simp) _) (by simp [tokV]) (by have := HZ.out; omega)
    · have hki : ¬ (k : Int) < (s.size : Int) := by omega
      obtain rfl : k = z := by omega
      have hz2 : (p : Int) ≤ (k : Int) := by omega
      have hz3 : (k : Int) ≤ (s.size : Int) := by omega
      go_wp2_with fail
      refine (HP.out _).mono ?_; rintro e w' ⟨rfl, rfl⟩
      go_wp2_with fail
      refine bodyPost_ret (v := .tuple #[.agg #[.int .i64 0, .string ⟨#[]⟩, .int .i64 0, .int .i64 0], .int .i64 ((p : Int)), .int .i64 pe]) (by simp [results, Tryz.results153, go_sem]) rfl ?_
      exact nexted_err (((Below.refl _ _).alloc (Nat.le_refl _) _).alloc (by simp) _) (by simp [tokV]) (by have := HZ.out; omega)
end Lx
end Go.Proofs.YtfbhokdcnjekiaaGreatDoor
namespace Go.Proofs.YtfbhokdcnjekiaaGreatDoor
open Go.RowKit
namespace Lx
variable {s : ByteArray} {p : Nat} {w : World}
theorem marks_no {c : UInt8} (h : sgl c = none) (k : Nat) (hk : k < (⟨#[94, 46, 59, 40, 41, 91, 93]⟩ : ByteArray).size) : (⟨#[94, 46, 59, 40, 41, 91, 93]⟩ : ByteArray)[k] ≠ c := by
 intro e
 have hm : c ∈ singleL := by rw [← e]; exact List.getElem_mem (l := singleL) hk
 unfold sgl at h
 exact List.idxOf?_eq_none_iff.1 h hm
theorem marks_some {c : UInt8} {i : Nat} (h : sgl c = some i) (hi : i ≤ 6) (k : Nat) (hk : k < (⟨#[94, 46, 59, 40, 41, 91, 93]⟩ : ByteArray).size) : (⟨#[94, 46, 59, 40, 41, 91, 93]⟩ : ByteArray)[k] = c ↔ k = i := by
 have e : singleL.getD i 0 = c := by have := (sgl_get h).2.1; simpa using this
 rw [← e]
 have hk7 : k < 7 := hk
 have H : ∀ (a b : Fin 7), singleL[a.val]'a.isLt = singleL.getD b.val 0 ↔ a.val = b.val := by decide
 exact H ⟨k, hk7⟩ ⟨i, by omega⟩
set_option maxRecDepth 100000 in
set_option maxHeartbeats 3200000 in
theorem rnext_mark (hs : s.size ≤ 140737488355327) {a : Nat} (ha : a ≤ s.size) (hk : sk none a (s.data.toList.drop a) = .ok p) (hp2 : p ≤ s.size) (hlt : p < s.size) (hl : letter s[p] = false) (hdg : digit s[p] = false) (h36 : s[p] ≠ 36) (h39 : s[p] ≠ 39) (h35 : s[p] ≠ 35) (h58 : s[p] ≠ 58) {i : Nat} (hi : sgl s[p] = some i) (hi6 : i ≤ 6) :
  Calls Tryz.prog 153 #[.string s, .int .i64 (a : Int)] w (Nexted p (tokR (s.data.toList.drop p)) w) := by
 have hr : s.data.toList.drop p = s[p] :: s.data.toList.drop (p + 1) := drop_cons s p hlt
 have hE : tokR (s.data.toList.drop p) = .ok (⟨8 + i, [], 0, 0⟩, 1) := by rw [hr]; simp only [tokR, tokC, hl, hdg, hi, if_neg h36, if_neg h39, if_neg h35, if_neg h58, Bool.false_eq_true, if_false]
 rw [hE]
 have hs1 : IntKind.i64.wrap ((p : Int) + 1) = (p : Int) + 1 := IntWalk.i64_in _ (by omega)
 have hpi : (p : Int) < (s.size : Int) := by omega
 have hpe : ((p : Int) == (s.size : Int)) = false := by rw [beq_eq_false_iff_ne]; omega
 obtain ⟨c, hc⟩ : ∃ c, s[p] = c := ⟨_, rfl⟩
 rw [hc] at hl hdg h36 h39 h35 h58 hi
 have n36 : ((c.toNat : Int) == 36) = false := bne_u8 _ 36 (by omega) h36
 have n39 : ((c.toNat : Int) == 39) = false := bne_u8 _ 39 (by omega) h39
 have n35 : ((c.toNat : Int) == 35) = false := bne_u8 _ 35 (by omega) h35
 have n58 : ((c.toNat : Int) == 58) = false := bne_u8 _ 58 (by omega) h58
 have hMk := marks_some hi hi6
 have hMs : ((⟨#[94, 46, 59, 40, 41, 91, 93]⟩ : ByteArray).size : Int) = 7 := rfl
 clear hE hr h36 h39 h35 h58 hi
 have HSK := fun v : World => rskip_any (s := s) (at_ := a) (w := v) (by omega) ha
 rw [hk] at HSK
 have HSK := Lib.hid HSK
 have hsz0 : ¬ (s.size : Int) < (a : Int) ∧ ¬ (a : Int) < 0 := by omega
 clear hk
 go_enter Tryz.func153, Tryz.ntmps153
 go_wp2_with fail
 refine (HSK.out _).mono ?_; rintro e w' ⟨rfl, rfl⟩
 go_wp2_with fail
 refine (rletter_any c _).mono ?_; rintro e w' ⟨rfl, rfl⟩
 rw [hl]
 go_wp2_with fail
 refine (rdigit_any c _).mono ?_; rintro e w' ⟨rfl, rfl⟩
 rw [hdg]
 go_wp2_with fail
 obtain ⟨M, hM⟩ : ∃ M, (⟨#[94, 46, 59, 40, 41, 91, 93]⟩ : ByteArray) = M := ⟨_, rfl⟩
 rw [hM] at hMs hMk ⊢
 have HMk := Lib.hid hMk
 clear hM hMk
 go_loop [18] (fun y => ∃ k : Nat, y = .int .i64 (k : Int) ∧ k ≤ i) (fun y => 7 - (intOf y).toNat)
 case atStart => exact ⟨0, rfl, by omega⟩
 case round =>
  obtain ⟨k, rfl, hki⟩ := hrel
  clear hc hl hdg hpi hpe hlt
  have hkm : k < M.size := by omega
  have hkm2 : (k : Int) < (M.size : Int) := by omega
  have hkw : IntKind.i64.wrap ((k : Int) + 1) = (k : Int) + 1 := IntWalk.i64_in _ (by omega)
  have hk8 : IntKind.i64.wrap (8 + (k : Int)) = 8 + (k : Int) := IntWalk.i64_in _ (by omega)
  by_cases hkz : k = i
  · have hd0 : M[k] = c := (HMk.out k hkm).2 hkz
    have hd1 : ((M[k].toNat : Int) == (c.toNat : Int)) = true := by rw [hd0]; simp
    clear hd0
    subst hkz
    go_wp2_with fail
    refine bodyPost_ret (v := .tuple #[.agg #[.int .i64 (8 + (k : Int)), .string ⟨#[]⟩, .int .i64 0, .int .i64 (p : Int)], .int .i64 ((p : Int) + 1), .int .i64 0]) (by simp [results, Tryz.results153, go_sem]) rfl ?_
    exact nexted_ok (((Below.refl _ _).alloc (Nat.le_refl _) _).alloc (by simp) _) (by simp [tokV]) (by omega)
  · have hd0 : M[k] ≠ c := fun e => hkz ((HMk.out k hkm).1 e)
    have hd1 : ((M[k].toNat : Int) == (c.toNat : Int)) = false := by
     rw [beq_eq_false_iff_ne]; intro e; exact hd0 (UInt8.toNat_inj.1 (by omega))
    clear hd0
    go_wp2_with fail
    exact ⟨⟨k + 1, vint (by omega), by omega⟩, by simp only [intOf]; omega⟩
set_option maxRecDepth 100000 in
set_option maxHeartbeats 3200000 in
theorem rnext_oper (hs : s.size ≤ 140737488355327) {a : Nat} (ha : a ≤ s.size) (hk : sk none a (s.data.toList.drop a) = .ok p) (hp2 : p ≤ s.size) (hlt : p < s.size) (hl : letter s[p] = false) (hdg : digit s[p] = false) (h36 : s[p] ≠ 36) (h39 : s[p] ≠ 39) (h35 : s[p] ≠ 35) (h58 : s[p] ≠ 58) (hi : sgl s[p] = none) :
  Calls Tryz.prog 153 #[.string s, .int .i64 (a : Int)] w (Nexted p (tokR (s.data.toList.drop p)) w) := by
 have hr : s.data.toList.drop p = s[p] :: s.data.toList.drop (p + 1) := drop_cons s p hlt
 have hE : tokR (s.data.toList.drop p) = if operL (s.data.toList.drop p) = 0 then .error (0, 3) else .ok (⟨6, (s.data.toList.drop p).take (operL (s.data.toList.drop p)), 0, 0⟩, operL (s.data.toList.drop p)) := by rw [hr]; simp only [tokR, tokC, hl, hdg, hi, if_neg h36, if_neg h39, if_neg h35, if_neg h58, Bool.false_eq_true, if_false]
 have hHO := fun v : World => roper_any (s := s) (at_ := p) (w := v) (by omega) hp2
 have hle := operL_le (s.data.toList.drop p)
 rw [dlen] at hle
 rw [hE]
 obtain ⟨q, hq⟩ : ∃ q, operL (s.data.toList.drop p) = q := ⟨_, rfl⟩
 rw [hq] at hHO hle ⊢
 have hpi : (p : Int) < (s.size : Int) := by omega
 have hpe : ((p : Int) == (s.size : Int)) = false := by rw [beq_eq_false_iff_ne]; omega
 obtain ⟨c, hc⟩ : ∃ c, s[p] = c := ⟨_, rfl⟩
 rw [hc] at hl hdg h36 h39 h35 h58 hi
 have n36 : ((c.toNat : Int) == 36) = false := bne_u8 _ 36 (by omega) h36
 have n39 : ((c.toNat : Int) == 39) = false := bne_u8 _ 39 (by omega) h39
 have n35 : ((c.toNat : Int) == 35) = false := bne_u8 _ 35 (by omega) h35
 have n58 : ((c.toNat : Int) == 58) = false := bne_u8 _ 58 (by omega) h58
 have hMk := marks_no hi
 have hMs : ((⟨#[94, 46, 59, 40, 41, 91, 93]⟩ : ByteArray).size : Int) = 7 := rfl
 clear hE hr h36 h39 h35 h58 hi hq
 by_cases h0 : q = 0
 · subst h0
   rw [if_pos rfl]
   have hHO : ∀ v : World, Calls Tryz.prog 73 #[.string s, .int .i64 (p : Int)] v (Done (.int .i64 (p : Int)) v) := hHO
   have HO := Lib.hid hHO
   clear hHO hle
   have HSK := fun v : World => rskip_any (s := s) (at_ := a) (w := v) (by omega) ha
   rw [hk] at HSK
   have HSK := Lib.hid HSK
   have hsz0 : ¬ (s.size : Int) < (a : Int) ∧ ¬ (a : Int) < 0 := by omega
   clear hk
   go_enter Tryz.func153, Tryz.ntmps153
   go_wp2_with fail
   refine (HSK.out _).mono ?_; rintro e w' ⟨rfl, rfl⟩
   go_wp2_with fail
   refine (rletter_any c _).mono ?_; rintro e w' ⟨rfl, rfl⟩
   rw [hl]
   go_wp2_with fail
   refine (rdigit_any c _).mono ?_; rintro e w' ⟨rfl, rfl⟩
   rw [hdg]
   go_wp2_with fail
   obtain ⟨M, hM⟩ : ∃ M, (⟨#[94, 46, 59, 40, 41, 91, 93]⟩ : ByteArray) = M := ⟨_, rfl⟩
   rw [hM] at hMs hMk ⊢
   have HMk := Lib.hid hMk
   clear hM hMk
   go_loop [18] (fun y => ∃ k : Nat, y = .int .i64 (k : Int) ∧ k ≤ 7) (fun y => 7 - (intOf y).toNat)
   case atStart => exact ⟨0, rfl, by omega⟩
   case round =>
    obtain ⟨k, rfl, hki⟩ := hrel
    clear hc hl hdg hpi hpe hlt
    by_cases hkz : k = 7
    · have hkm : ¬ (k : Int) < (M.size : Int) := by omega
      clear hMs hkz
      go_wp2_with fail
      refine (HO.out _).mono ?_; rintro e w' ⟨rfl, rfl⟩
      go_wp2_with fail
      refine bodyPost_ret (v := .tuple #[.agg #[.int .i64 0, .string ⟨#[]⟩, .int .i64 0, .int .i64 0], .int .i64 ((p : Int)), .int .i64 3]) (by simp [results, Tryz.results153, go_sem]) rfl ?_
      exact nexted_err (((Below.refl _ _).alloc (Nat.le_refl _) _).alloc (by simp) _) (by simp [tokV]) (by omega)
    · have hkm : k < M.size := by omega
      have hkm2 : (k : Int) < (M.size : Int) := by omega
      have hkw : IntKind.i64.wrap ((k : Int) + 1) = (k : Int) + 1 := IntWalk.i64_in _ (by omega)
      have hd0 : M[k] ≠ c := HMk.out k hkm
      have hd1 : ((M[k].toNat : Int) == (c.toNat : Int)) = false := by
       rw [beq_eq_false_iff_ne]; intro e; exact hd0 (UInt8.toNat_inj.1 (by omega))
      clear hd0
      go_wp2_with fail
      exact ⟨⟨k + 1, vint (by omega), by omega⟩, by simp only [intOf]; omega⟩
 · rw [if_neg h0]
   have hpq : p + q ≤ s.size := by omega
   have hxw := ext_word s p q hpq
   obtain ⟨z, hz⟩ : ∃ z, p + q = z := ⟨_, rfl⟩
   rw [hz] at hHO hxw
   obtain ⟨x, hx⟩ : ∃ x, s.extract p z = x := ⟨_, rfl⟩
   rw [hx] at hxw
   have HXW := Lib.hid hxw
   have HO := Lib.hid hHO
   have hzb : ((z : Int) == (p : Int)) = false := by rw [beq_eq_false_iff_ne]; omega
   have hz1 : (p : Int) ≤ (z : Int) := by omega
   have hz2 : (z : Int) ≤ (s.size : Int) := by omega
   have hz3 : p ≤ z := by omega
   have hz4 : z ≤ s.size := by omega
   clear hHO hxw hle h0
   have HSK := fun v : World => rskip_any (s := s) (at_ := a) (w := v) (by omega) ha
   rw [hk] at HSK
   have HSK := Lib.hid HSK
   have hsz0 : ¬ (s.size : Int) < (a : Int) ∧ ¬ (a : Int) < 0 := by omega
   clear hk
   go_enter Tryz.func153, Tryz.ntmps153
   go_wp2_with fail
   refine (HSK.out _).mono ?_; rintro e w' ⟨rfl, rfl⟩
   go_wp2_with fail
   refine (rletter_any c _).mono ?_; rintro e w' ⟨rfl, rfl⟩
   rw [hl]
   go_wp2_with fail
   refine (rdigit_any c _).mono ?_; rintro e w' ⟨rfl, rfl⟩
   rw [hdg]
   go_wp2_with fail
   obtain ⟨M, hM⟩ : ∃ M, (⟨#[94, 46, 59, 40, 41, 91, 93]⟩ : ByteArray) = M := ⟨_, rfl⟩
   rw [hM] at hMs hMk ⊢
   have HMk := Lib.hid hMk
   clear hM hMk
   go_loop [18] (fun y => ∃ k : Nat, y = .int .i64 (k : Int) ∧ k ≤ 7) (fun y => 7 - (intOf y).toNat)
   case atStart => exact ⟨0, rfl, by omega⟩
   case round =>
    obtain ⟨k, rfl, hki⟩ := hrel
    clear hc hl hdg hpi hpe hlt
    by_cases hkz : k = 7
    · have hkm : ¬ (k : Int) < (M.size : Int) := by omega
      clear hMs hkz
      go_wp2_with fail
      refine (HO.out _).mono ?_; rintro e w' ⟨rfl, rfl⟩
      go_wp2_with fail
      refine bodyPost_ret (v := .tuple #[.agg #[.int .i64 6, .string x, .int .i64 0, .int .i64 (p : Int)], .int .i64 ((z : Int)), .int .i64 0]) (by simp [results, Tryz.results153, go_sem]) rfl ?_
      exact nexted_ok (((Below.refl _ _).alloc (Nat.le_refl _) _).alloc (by simp) _) (by rw [HXW.out]; simp [tokV]) (by omega)
    · have hkm : k < M.size := by omega
      have hkm2 : (k : Int) < (M.size : Int) := by omega
      have hkw : IntKind.i64.wrap ((k : Int) + 1) = (k : Int) + 1 := IntWalk.i64_in _ (by omega)
      have hd0 : M[k] ≠ c := HMk.out k hkm
      have hd1 : ((M[k].toNat : Int) == (c.toNat : Int)) = false := by
       rw [beq_eq_false_iff_ne]; intro e; exact hd0 (UInt8.toNat_inj.1 (by omega))
      clear hd0
      go_wp2_with fail
      exact ⟨⟨k + 1, vint (by omega), by omega⟩, by simp only [intOf]; omega⟩
end Lx
end Go.Proofs.YtfbhokdcnjekiaaGreatDoor
namespace Go.Proofs.YtfbhokdcnjekiaaGreatDoor
open Go.RowKit
namespace Lx
variable {s : ByteArray} {p : Nat} {w : World}
theorem rnext_tok (hs : s.size ≤ 140737488355327) {a : Nat} (ha : a ≤ s.size) (hk : sk none a (s.data.toList.drop a) = .ok p) (hp2 : p ≤ s.size) :
  Calls Tryz.prog 153 #[.string s, .int .i64 (a : Int)] w (Nexted p (tokR (s.data.toList.drop p)) w) := by
 rcases Nat.lt_or_ge p s.size with hlt | hge
 · cases hl : letter s[p]
   · cases hdg : digit s[p]
     · by_cases h36 : s[p] = 36
       · by_cases h1 : p + 1 = s.size
         · exact rnext_dollar_end hs ha hk hp2 hlt h36 h1
         · exact rnext_dollar hs ha hk hp2 hlt h36 (by omega)
       by_cases h39 : s[p] = 39
       · exact rnext_text hs ha hk hp2 hlt h39
       by_cases h35 : s[p] = 35
       · exact rnext_hash hs ha hk hp2 hlt h35
       by_cases h58 : s[p] = 58
       · by_cases h61 : hd (s.data.toList.drop (p + 1)) 0 = 61
         · rcases Nat.lt_or_ge (p + 1) s.size with h1 | h1
           · exact rnext_assign hs ha hk hp2 hlt h58 h1 (by rw [← hd_drop s (p + 1) 0 h1]; exact h61)
           · rw [List.drop_eq_nil_of_le (show s.data.toList.length ≤ p + 1 from h1)] at h61
             exact absurd h61 (by decide)
         · exact rnext_colon hs ha hk hp2 hlt h58 h61
       cases hi : sgl s[p] with
       | some i => exact rnext_mark hs ha hk hp2 hlt hl hdg h36 h39 h35 h58 hi (sgl_get hi).1
       | none => exact rnext_oper hs ha hk hp2 hlt hl hdg h36 h39 h35 h58 hi
     · exact rnext_digits hs ha hk hp2 hlt hl hdg
   · by_cases hkw : kw1 (s.data.toList.drop p) = 0
     · exact rnext_name hs ha hk hp2 hlt hl hkw
     · exact rnext_keyword hs ha hk hp2 hlt hl hkw
 · exact rnext_end hs ha hk hp2 (by omega)
theorem rnext_at (hs : s.size ≤ 140737488355327) {a : Nat} (ha : a ≤ s.size) :
  Calls Tryz.prog 153 #[.string s, .int .i64 (a : Int)] w (Nexted a (nextR (s.data.toList.drop a)) w) := by
 unfold nextR
 have hb := sk_base (s.data.toList.drop a) a
 have hdl : (s.data.toList.drop a).length = s.size - a := by rw [List.length_drop]; rfl
 cases hk : sk none 0 (s.data.toList.drop a) with
 | error st =>
  rw [hk] at hb
  refine (rnext_note hs ha hb).mono fun e w' hh => ?_
  obtain ⟨h1, h2⟩ := hh
  exact ⟨h1, by rw [h2]; simp; omega⟩
 | ok k =>
  rw [hk] at hb
  have hle := (sk_le _ _ _ _ hk).2
  have h := rnext_tok (w := w) hs ha hb (by omega)
  rw [show s.data.toList.drop (k + a) = (s.data.toList.drop a).drop k by rw [List.drop_drop, Nat.add_comm]] at h
  simp only
  cases hE : tokR ((s.data.toList.drop a).drop k) with
  | error x =>
   obtain ⟨q, n⟩ := x
   rw [hE] at h
   refine h.mono fun e w' hh => ?_
   obtain ⟨h1, h2⟩ := hh
   exact ⟨h1, by rw [h2]; simp; omega⟩
  | ok y =>
   obtain ⟨t, n⟩ := y
   rw [hE] at h
   refine h.mono fun e w' hh => ?_
   obtain ⟨h1, h2⟩ := hh
   exact ⟨h1, by rw [h2]; simp [tokV]; omega⟩
theorem rnext_any (hs : s.size ≤ 140737488355327) :
  Calls Tryz.prog 153 #[.string s, .int .i64 0] w (Nexted 0 (nextR s.data.toList) w) := by
 have h := rnext_at (w := w) hs (a := 0) (Nat.zero_le _)
 rwa [List.drop_zero] at h
end Lx
end Go.Proofs.YtfbhokdcnjekiaaGreatDoor
namespace Go.Proofs.YtfbhokdcnjekiaaGreatDoor
open Go.RowKit
namespace Lx
variable {s : ByteArray} {w : World}
theorem count_step (s : ByteArray) (k : Nat) (h : k < s.size) : Lib.countByte (s.data.toList.take (k + 1)) 58 = Lib.countByte (s.data.toList.take k) 58 + (if s[k] = 58 then 1 else 0) := by
 have hk : k < s.data.toList.length := h
 have hg : s.data.toList[k] = s[k] := rfl
 rw [List.take_succ_eq_append_getElem hk]
 unfold Lib.countByte
 rw [List.count_append, hg, List.count_singleton]
 by_cases e : s[k] = 58
 · simp [e]
 · simp [e]
set_option maxRecDepth 100000 in
set_option maxHeartbeats 3200000 in
theorem rarity_any (hs : s.size ≤ 140737488355327) :
  Calls Tryz.prog 34 #[.string s] w (Done (.int .i64 (arityP s.data.toList)) w) := by
 have hE0 : arityP s.data.toList = if s.data.toList = [] then (-1 : Int) else if 64 < s.data.toList.length then (-1 : Int) else if kwL s.data.toList = s.data.toList.length then ((Lib.countByte s.data.toList 58 : Nat) : Int) else if nameL s.data.toList = s.data.toList.length then 0 else if operL s.data.toList = s.data.toList.length then 1 else (-1 : Int) := rfl
 have hl : s.data.toList.length = s.size := rfl
 rw [hl] at hE0
 have hHK := fun v : World => rkeywords_any (s := s) (at_ := 0) (w := v) (by omega) (Nat.zero_le _)
 have hHN := fun v : World => rname_any (s := s) (at_ := 0) (w := v) (by omega) (Nat.zero_le _)
 have hHO := fun v : World => roper_any (s := s) (at_ := 0) (w := v) (by omega) (Nat.zero_le _)
 rw [List.drop_zero, Nat.zero_add] at hHK hHN hHO
 have HK := Lib.hid hHK
 have HN := Lib.hid hHN
 have HO := Lib.hid hHO
 clear hHK hHN hHO
 obtain ⟨A, hA⟩ : ∃ A, arityP s.data.toList = A := ⟨_, rfl⟩
 rw [hA] at hE0 ⊢
 clear hA
 by_cases h0 : s.data.toList = []
 · rw [if_pos h0] at hE0
   have hz : s.size = 0 := by rw [← hl, h0]; rfl
   have hzi : (s.size : Int) = 0 := by omega
   subst hE0
   have hzb : ((s.size : Int) == 0) = true := by rw [hzi]; rfl
   clear h0 hl hz hzi
   go_enter Tryz.func34, Tryz.ntmps34
   go_wp2_with fail
   go_ret
   exact ⟨rfl, rfl⟩
 rw [if_neg h0] at hE0
 have hp : 0 < s.size := by rw [← hl]; exact List.length_pos_iff.2 h0
 have hzb : ((s.size : Int) == 0) = false := by rw [beq_eq_false_iff_ne]; omega
 clear h0 hl
 by_cases h64 : 64 < s.size
 · rw [if_pos h64] at hE0
   subst hE0
   have h64i : (64 : Int) < (s.size : Int) := by omega
   go_enter Tryz.func34, Tryz.ntmps34
   go_wp2_with fail
   go_ret
   exact ⟨rfl, rfl⟩
 rw [if_neg h64] at hE0
 have h64i : ¬ (64 : Int) < (s.size : Int) := by omega
 by_cases hk : kwL s.data.toList = s.size
 · rw [if_pos hk] at hE0
   rw [hk] at HK
   have HE := Lib.hid hE0
   clear hE0 hk
   go_enter Tryz.func34, Tryz.ntmps34
   go_wp2_with fail
   refine (HK.out _).mono ?_; rintro e w' ⟨rfl, rfl⟩
   go_wp2_with fail
   go_loop [3, 4] (fun m y => ∃ k : Nat, y = .int .i64 (k : Int) ∧ k ≤ s.size ∧ m = .int .i64 (Lib.countByte (s.data.toList.take k) 58 : Nat)) (fun _ y => s.size - (intOf y).toNat)
   case atStart => exact ⟨0, rfl, Nat.zero_le _, rfl⟩
   case round =>
    obtain ⟨k, rfl, hk1, hm⟩ := hrel
    clear hzb h64 h64i hp
    by_cases hks : k < s.size
    · have hki : (k : Int) < (s.size : Int) := by omega
      have hkw : IntKind.i64.wrap ((k : Int) + 1) = (k : Int) + 1 := IntWalk.i64_in _ (by omega)
      have hst := count_step s k hks
      have hcl : Lib.countByte (s.data.toList.take k) 58 ≤ k := by
       have h1 := List.count_le_length (a := (58 : UInt8)) (l := s.data.toList.take k)
       have h2 := List.length_take_le k s.data.toList
       unfold Lib.countByte; omega
      obtain ⟨N, hN⟩ : ∃ N, Lib.countByte (s.data.toList.take k) 58 = N := ⟨_, rfl⟩
      rw [hN] at hst hm hcl
      have hNw : IntKind.i64.wrap ((N : Int) + 1) = (N : Int) + 1 := IntWalk.i64_in _ (by omega)
      subst hm
      clear hN
      by_cases h58 : s[k] = 58
      · have hb : ((s[k].toNat : Int) == 58) = true := by rw [h58]; rfl
        rw [if_pos h58] at hst
        have HS := Lib.hid hst
        clear h58 hst
        go_wp2_with fail
        exact ⟨⟨k + 1, vint (by omega), by omega, vint (by rw [HS.out]; omega)⟩, by simp only [intOf]; omega⟩
      · have hb : ((s[k].toNat : Int) == 58) = false := bne_u8 _ 58 (by omega) h58
        rw [if_neg h58] at hst
        have HS := Lib.hid hst
        clear h58 hst
        go_wp2_with fail
        exact ⟨⟨k + 1, vint (by omega), by omega, vint (by rw [HS.out]; omega)⟩, by simp only [intOf]; omega⟩
    · have hki : ¬ (k : Int) < (s.size : Int) := by omega
      have htk : s.data.toList.take k = s.data.toList := List.take_of_length_le (show s.data.toList.length ≤ k by have : s.data.toList.length = s.size := rfl; omega)
      rw [htk, ← HE.out] at hm
      subst hm
      clear htk
      go_wp2_with fail
      go_ret
      exact ⟨rfl, rfl⟩
 rw [if_neg hk] at hE0
 have hkb : (((kwL s.data.toList : Nat) : Int) == (s.size : Int)) = false := by rw [beq_eq_false_iff_ne]; omega
 clear hk
 by_cases hn : nameL s.data.toList = s.size
 · rw [if_pos hn] at hE0
   have hnb : (((nameL s.data.toList : Nat) : Int) == (s.size : Int)) = true := by rw [beq_iff_eq]; omega
   subst hE0
   go_enter Tryz.func34, Tryz.ntmps34
   go_wp2_with fail
   refine (HK.out _).mono ?_; rintro e w' ⟨rfl, rfl⟩
   go_wp2_with fail
   refine (HN.out _).mono ?_; rintro e w' ⟨rfl, rfl⟩
   go_wp2_with fail
   go_ret
   exact ⟨rfl, rfl⟩
 rw [if_neg hn] at hE0
 have hnb : (((nameL s.data.toList : Nat) : Int) == (s.size : Int)) = false := by rw [beq_eq_false_iff_ne]; omega
 clear hn
 by_cases ho : operL s.data.toList = s.size
 · rw [if_pos ho] at hE0
   have hob : (((operL s.data.toList : Nat) : Int) == (s.size : Int)) = true := by rw [beq_iff_eq]; omega
   subst hE0
   go_enter Tryz.func34, Tryz.ntmps34
   go_wp2_with fail
   refine (HK.out _).mono ?_; rintro e w' ⟨rfl, rfl⟩
   go_wp2_with fail
   refine (HN.out _).mono ?_; rintro e w' ⟨rfl, rfl⟩
   go_wp2_with fail
   refine (HO.out _).mono ?_; rintro e w' ⟨rfl, rfl⟩
   go_wp2_with fail
   go_ret
   exact ⟨rfl, rfl⟩
 · rw [if_neg ho] at hE0
   have hob : (((operL s.data.toList : Nat) : Int) == (s.size : Int)) = false := by rw [beq_eq_false_iff_ne]; omega
   subst hE0
   go_enter Tryz.func34, Tryz.ntmps34
   go_wp2_with fail
   refine (HK.out _).mono ?_; rintro e w' ⟨rfl, rfl⟩
   go_wp2_with fail
   refine (HN.out _).mono ?_; rintro e w' ⟨rfl, rfl⟩
   go_wp2_with fail
   refine (HO.out _).mono ?_; rintro e w' ⟨rfl, rfl⟩
   go_wp2_with fail
   go_ret
   exact ⟨rfl, rfl⟩
end Lx
end Go.Proofs.YtfbhokdcnjekiaaGreatDoor
